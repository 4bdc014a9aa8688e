/- Texts of the proof, in their order: Sx1, Sx2, Sx3, Sx4, Sx5, Sx6, Sx7, Sx8, Sx9, SxA, SxB, SxC, SxD, SxE, SxF, SxG. -/
import Derived.WalkKit
import Derived.Laws.AppendOwn
import Derived.Laws.Tables
import Derived.Laws.NewFold
import Derived.Great.BuildSlice
import Derived.Deep.Draws
import Derived.RangeFuncRecord
import Derived.RangeFuncLeaves
import Derived.OwnWalkIn
import Derived.OrdersIn
import Derived.LoopNIn
import Derived.TacticsIn
import Derived.Deep.LoopGhost
import Derived.OrdersHeld
import Derived.SliceStrings
import Derived.Below
import Derived.Lib.ConvBytes
import Derived.Laws.BytesString
import Derived.Laws.IdiomStrings
import Derived.Lib.Bytealg
import Derived.ChangeArms
set_option linter.unusedVariables false
set_option linter.unusedSimpArgs false
set_option maxHeartbeats 16000000
set_option maxRecDepth 100000
namespace Go.Sx
theorem ap1 {α : Type _} {a : α} {l m : List α} : a :: l ++ m = a :: (l ++ m) := rfl
theorem ap2 {α : Type _} (l : List α) : [] ++ l = l := rfl
theorem ap3 {α : Type _} (l : List α) : l ++ [] = l := List.append_nil l
end Go.Sx
namespace Go.Sx
open Go
section
set_option maxRecDepth 512
abbrev Env:=List (Nat×Value)
def Env.get:Env→Nat→Option Value
 | [],_=>none
 | (d,v)::E,t=>bif Nat.beq d t then some v else Env.get E t
def Env.ev (E:Env):Operand→Option Value
 | .tmp t=>E.get t
 | .const v=>some v
 | .global g=>some (.pointer (some ⟨g,0,none⟩))
 | .func f=>some (.func (.func f) #[] #[])
def Env.evs (E:Env):List Operand→Option (List Value)
 | []=>some []
 | x::xs=>match E.ev x,Env.evs E xs with
  | some v,some vs=>some (v::vs)
  | _,_=>none
def Env.evps (E:Env):List (Nat×Operand)→Option (List (Nat×Value))
 | []=>some []
 | (i,x)::xs=>match E.ev x,Env.evps E xs with
  | some v,some vs=>some ((i,v)::vs)
  | _,_=>none
structure Cx where
 mk ::
 (m:Nat) (ds:List Deferred) (ro:Option Nat)
structure EnvOk (a:Act) (E:Env) (n:Cx):Prop where
 defers:a.defers=n.ds
 size:a.tmps.size=n.m
 get:∀ t v,E.get t=some v→a.tmps[t]? = some v
theorem EnvOk.eval {a:Act} {E:Env} {n:Cx} (h:EnvOk a E n) {x:Operand} {v:Value} (hx:E.ev x=some v):a.eval x=v:=by
 cases x with
 | tmp t=>simp only [Act.eval,Array.getD_eq_getD_getElem?,h.get t v hx,Option.getD_some]
 | const c=>simpa [Act.eval,Env.ev] using hx
 | global g=>simpa [Act.eval,Env.ev] using hx
 | func f=>simpa [Act.eval,Env.ev] using hx
theorem EnvOk.evals {a:Act} {E:Env} {n:Cx} (h:EnvOk a E n):∀ {xs:List Operand} {vs:List Value},E.evs xs=some vs→xs.map a.eval=vs
 | [],vs,hx=>by simpa [Env.evs] using hx
 | x::xs,vs,hx=>by
  unfold Env.evs at hx;cases h1:E.ev x with
  | none=>simp [h1] at hx
  | some v=>
   cases h2:E.evs xs with
   | none=>simp [h1,h2] at hx
   | some ws=>
    simp only [h1,h2,Option.some.injEq] at hx;subst hx;simp [h.eval h1,h.evals h2]
theorem EnvOk.evalps {a:Act} {E:Env} {n:Cx} (h:EnvOk a E n):∀ {xs:List (Nat×Operand)} {vs:List (Nat×Value)},E.evps xs=some vs→xs.map (fun p=>(p.1,a.eval p.2))=vs
 | [],vs,hx=>by simpa [Env.evps] using hx
 | (i,x)::xs,vs,hx=>by
  unfold Env.evps at hx;cases h1:E.ev x with
  | none=>simp [h1] at hx
  | some v=>
   cases h2:E.evps xs with
   | none=>simp [h1,h2] at hx
   | some ws=>
    simp only [h1,h2,Option.some.injEq] at hx;subst hx;simp [h.eval h1,h.evalps h2]
theorem EnvOk.put {a:Act} {E:Env} {n:Cx} (h:EnvOk a E n) {d:Nat} {v:Value} (hd:Nat.blt d n.m=true):EnvOk (a.put (some d) v) ((d,v)::E) n:=by
 have hd':d<n.m:=by simpa [Nat.blt_eq] using hd
 refine ⟨h.defers,by simp [Act.put,h.size],fun t u ht=>?_⟩;simp only [Env.get] at ht;by_cases hdt:d=t
 ·subst hdt;simp only [Nat.beq_refl,cond_true,Option.some.injEq] at ht;subst ht;simp [Act.put,h.size,hd']
 ·have hb:Nat.beq d t=false:=by
   cases hh:Nat.beq d t
   ·rfl
   ·exact absurd (Nat.eq_of_beq_eq_true hh) hdt
  simp only [hb,cond_false] at ht;simp [Act.put,Array.getElem?_setIfInBounds_ne hdt,h.get t u ht]
theorem EnvOk.put_none {a:Act} {E:Env} {n:Cx} (h:EnvOk a E n) {v:Value}:EnvOk (a.put none v) E n:=h
def EnvSub (E:Env):Env→Prop
 | []=>True
 | (t,v)::F=>E.get t=some v∧EnvSub E F
theorem EnvSub.get {E:Env}:∀ {F:Env},EnvSub E F→∀ t v,F.get t=some v→E.get t=some v
 | [],_,t,v,h=>by simp [Env.get] at h
 | (d,u)::F,hs,t,v,h=>by
  simp only [Env.get] at h;cases hb:Nat.beq d t with
  | true=>
   simp only [hb,cond_true,Option.some.injEq] at h;have hdt:=Nat.eq_of_beq_eq_true hb;subst hdt;subst h;exact hs.1
  | false=>
   simp only [hb,cond_false] at h;exact hs.2.get t v h
theorem EnvOk.sub {a:Act} {E F:Env} {n:Cx} (h:EnvOk a E n) (hs:EnvSub E F):EnvOk a F n:=
 ⟨h.defers,h.size,fun t v ht=>h.get t v (hs.get t v ht)⟩
def Env.ofArgs:Nat→List Value→Env
 | _,[]=>[]
 | i,v::vs=>(i,v)::Env.ofArgs (i+1) vs
theorem Env.get_ofArgs:∀ (vs:List Value) (i t:Nat) (v:Value),(Env.ofArgs i vs).get t=some v→i≤t∧vs[t-i]? = some v
 | [],i,t,v,h=>by simp [Env.ofArgs,Env.get] at h
 | u::vs,i,t,v,h=>by
  simp only [Env.ofArgs,Env.get] at h;cases hb:Nat.beq i t with
  | true=>
   simp only [hb,cond_true,Option.some.injEq] at h;have hit:=Nat.eq_of_beq_eq_true hb;subst hit;subst h;simp
  | false=>
   simp only [hb,cond_false] at h;obtain ⟨h1,h2⟩:=Env.get_ofArgs vs (i+1) t v h;refine ⟨by omega,?_⟩;rw [show t-i=(t-(i+1))+1 by omega]
   simpa using h2
structure Piece where
 own:Nat→Prop
 ok:World→Prop
 loc:∀ w w':World,(∀ k,own k→w'.heap[k]? = w.heap[k]?)→ok w→ok w'
inductive Chunk where
  | blk (b:Nat) (cs:List Value) (t:TypeId)
  | obj (b:Nat) (o:Obj)
  | row (ao:Option Addr) (cap:Nat) (e:TypeId) (sz n:Nat) (xs:List Value)
  | rng (ao:Option Addr) (cs:List Value)
  | fro (b:Nat) (cs:List Value) (t:TypeId)
 | gen (p:Piece)
  | see (p:Piece)
def Chunk.wr:Chunk→Bool
 | .rng _ _ | .see _=>false
 | _=>true
def Chunk.own:Chunk→Nat→Prop
 | .blk b _ _,k=>k=b
 | .obj b _,k=>k=b
 | .row ao cap _ _ n _,k=>(Value.slice ao n cap).ownBlock=some k
 | .rng ao cs,k=>cs≠[]∧∃ a,ao=some a∧k=a.block
 | .fro b _ _,k=>k=b
 | .gen p,k=>p.own k
 | .see p,k=>p.own k
def Chunk.ok:Chunk→World→Prop
 | .blk b cs t,w=>w.heap[b]? = some (.cells cs.toArray t (0,0))
 | .obj b o,w=>w.heap[b]? = some o
 | .row ao cap e sz n xs,w=>w.ownsRow 0 e sz (.slice ao n cap) n xs
 | .rng ao cs,w=>∀ j v,cs[j]? = some v→∃ a,ao=some a∧w.cell? (a.add j)=some v
 | .fro b cs t,w=>w.heap[b]? = some (.cells cs.toArray t (cs.length,cs.length+1))
 | .gen p,w=>p.ok w
 | .see p,w=>p.ok w
theorem Chunk.loc (c:Chunk) (w w':World) (h:∀ k,c.own k→w'.heap[k]? = w.heap[k]?) (hok:c.ok w):c.ok w':=by
 cases c with
 | blk b cs t=>exact (h b rfl).trans hok
 | obj b o=>exact (h b rfl).trans hok
 | row ao cap e sz n xs=>
  obtain ⟨h1,h2⟩:=hok;refine ⟨h1,?_⟩;rcases h2 with h2 | ⟨g,c,cur,hv,hb,hg,r⟩
  ·exact .inl h2
  ·refine .inr ⟨g,c,cur,hv,hb,?_,r⟩;rw [← hg];exact h g (by show (Value.slice ao n cap).ownBlock=some g;rw [hv];rfl)
 | rng ao cs=>
  intro j v hj;obtain ⟨a,rfl,hc⟩:=hok j v hj;have hb:(a.add j).block=a.block:=by unfold Addr.add;split <;> rfl
  refine ⟨a,rfl,?_⟩;rw [← hc];exact World.cell?_of_block (w:=w) (by rw [hb];exact h _ ⟨fun hn=>by subst hn;simp at hj,a,rfl,rfl⟩)
 | fro b cs t=>exact (h b rfl).trans hok
 | gen p=>exact p.loc w w' h hok
 | see p=>exact p.loc w w' h hok
def Chunk.Apart (c d:Chunk):Prop:=(c.wr=true∨d.wr=true)→∀ k,c.own k→¬ d.own k
structure Base (w0:World) (M:Nat→Prop) (w:World):Prop where
 os:w.os=w0.os
 tape:w.tape=w0.tape
 output:w.output=w0.output
 size:w0.heap.size≤w.heap.size
 old:∀ k,k<w0.heap.size→¬ M k→w.heap[k]? = w0.heap[k]?
def Sep (w0:World) (M:Nat→Prop) (w:World):List Chunk→Prop
 | []=>True
 | c::H=>c.ok w∧(∀ k,c.own k→k<w.heap.size∧(c.wr=true→M k∨w0.heap.size≤k))∧(∀ d∈H,c.Apart d)∧Sep w0 M w H
structure St (w0:World) (M:Nat→Prop) (w:World) (H:List Chunk):Prop where
 base:Base w0 M w
 sep:Sep w0 M w H
theorem Base.refl (w:World) (M:Nat→Prop):Base w M w:=⟨rfl,rfl,rfl,Nat.le_refl _,fun _ _ _=>rfl⟩
structure Turns (own:Nat→Prop) (w w':World):Prop where
 os:w'.os=w.os
 tape:w'.tape=w.tape
 output:w'.output=w.output
 size:w.heap.size≤w'.heap.size
 same:∀ k,k<w.heap.size→¬ own k→w'.heap[k]? = w.heap[k]?
theorem Turns.refl (own:Nat→Prop) (w:World):Turns own w w:=⟨rfl,rfl,rfl,Nat.le_refl _,fun _ _ _=>rfl⟩
theorem Base.turns {w0 w w':World} {M own:Nat→Prop} (h:Base w0 M w) (ht:Turns own w w') (hown:∀ k,own k→M k∨w0.heap.size≤k):Base w0 M w':=
 ⟨ht.os.trans h.os,ht.tape.trans h.tape,ht.output.trans h.output,Nat.le_trans h.size ht.size,fun k hk hM=>by
  rw [ht.same k (Nat.lt_of_lt_of_le hk h.size) (fun ho=>by rcases hown k ho with h1 | h1;exact hM h1;omega),h.old k hk hM]⟩
theorem Sep.keep {w0 w w':World} {M own:Nat→Prop} (ht:Turns own w w'):∀ {H:List Chunk},Sep w0 M w H→(∀ d∈H,∀ k,own k→¬ d.own k)→Sep w0 M w' H
 | [],_,_=>trivial
 | c::H,h,hap=>by
  obtain ⟨h1,h2,h3,h4⟩:=h;refine ⟨c.loc w w' (fun k hk=>ht.same k (h2 k hk).1 (fun ho=>hap c (by simp) k ho hk)) h1,fun k hk=>⟨Nat.lt_of_lt_of_le (h2 k hk).1 ht.size,(h2 k hk).2⟩,h3,h4.keep ht (fun d hd=>hap d (by simp [hd]))⟩
theorem Sep.dom {w0 w:World} {M:Nat→Prop}:∀ {H:List Chunk},Sep w0 M w H→∀ d∈H,∀ k,d.own k→k<w.heap.size
 | [],_,d,hd=>by simp at hd
 | c::H,h,d,hd=>by
  obtain ⟨_,h2,_,h4⟩:=h;rcases List.mem_cons.1 hd with rfl | hd
  ·exact fun k hk=>(h2 k hk).1
  ·exact h4.dom d hd
def pick:List Chunk→Nat→Option (Chunk×List Chunk)
 | [],_=>none
 | c::H,0=>some (c,H)
 | c::H,i+1=>match pick H i with
  | some (d,H')=>some (d,c::H')
  | none=>none
theorem Chunk.Apart.symm {c d:Chunk} (h:c.Apart d):d.Apart c:=fun hw k hd hc=>h hw.symm k hc hd
theorem pick_mem:∀ {H:List Chunk} {i:Nat} {c:Chunk} {H':List Chunk},pick H i=some (c,H')→c∈H∧∀ d∈H',d∈H
 | [],i,c,H',h=>by simp [pick] at h
 | x::H,0,c,H',h=>by
  simp only [pick,Option.some.injEq,Prod.mk.injEq] at h;obtain ⟨rfl,rfl⟩:=h;exact ⟨by simp,fun d hd=>by simp [hd]⟩
 | x::H,i+1,c,H',h=>by
  simp only [pick] at h;cases hp:pick H i with
  | none=>simp [hp] at h
  | some p=>
   obtain ⟨d,H2⟩:=p;simp only [hp,Option.some.injEq,Prod.mk.injEq] at h;obtain ⟨rfl,rfl⟩:=h;obtain ⟨h1,h2⟩:=pick_mem hp;exact ⟨by simp [h1],fun e he=>by rcases List.mem_cons.1 he with rfl | he;simp;simp [h2 e he]⟩
theorem Sep.pick {w0 w:World} {M:Nat→Prop}:∀ {H:List Chunk} {i:Nat} {c:Chunk} {H':List Chunk},Sx.pick H i=some (c,H')→Sep w0 M w H→Sep w0 M w (c::H')
 | [],i,c,H',h,_=>by simp [Sx.pick] at h
 | x::H,0,c,H',h,hs=>by
  simp only [Sx.pick,Option.some.injEq,Prod.mk.injEq] at h;obtain ⟨rfl,rfl⟩:=h;exact hs
 | x::H,i+1,c,H',h,hs=>by
  simp only [Sx.pick] at h;cases hp:Sx.pick H i with
  | none=>simp [hp] at h
  | some p=>
   obtain ⟨d,H2⟩:=p;simp only [hp,Option.some.injEq,Prod.mk.injEq] at h;obtain ⟨rfl,rfl⟩:=h;obtain ⟨h1,h2,h3,h4⟩:=hs;obtain ⟨g1,g2,g3,g4⟩:=Sep.pick hp h4;obtain ⟨m1,m2⟩:=pick_mem hp;refine ⟨g1,g2,fun e he=>?_,h1,h2,fun e he=>h3 e (m2 e he),g4⟩;rcases List.mem_cons.1 he with rfl | he
   ·exact (h3 d m1).symm
   ·exact g3 e he
theorem St.pick {w0 w:World} {M:Nat→Prop} {H:List Chunk} (h:St w0 M w H) (i:Nat) {c:Chunk} {H':List Chunk} (hp:Sx.pick H i=some (c,H')):St w0 M w (c::H'):=⟨h.base,h.sep.pick hp⟩
theorem St.drop {w0 w:World} {M:Nat→Prop} {c:Chunk} {H:List Chunk} (h:St w0 M w (c::H)):St w0 M w H:=⟨h.base,h.sep.2.2.2⟩
theorem St.head {w0 w:World} {M:Nat→Prop} {c:Chunk} {H:List Chunk} (h:St w0 M w (c::H)):c.ok w:=h.sep.1
theorem St.turn {w0 w w':World} {M:Nat→Prop} {c c':Chunk} {H:List Chunk} (h:St w0 M w (c::H)) (hw:c.wr=true) (ht:Turns c.own w w') (hok:c'.ok w')
  (hown:∀ k,c'.own k→c.own k∨(w.heap.size≤k∧k<w'.heap.size)):St w0 M w' (c'::H):=by
 obtain ⟨hb,h1,h2,h3,h4⟩:=h;have hM:∀ k,c.own k→M k∨w0.heap.size≤k:=fun k hk=>(h2 k hk).2 hw
 have hap:∀ d∈H,∀ k,c.own k→¬ d.own k:=fun d hd=>h3 d hd (.inl hw)
 refine ⟨hb.turns ht hM,hok,fun k hk=>?_,fun d hd _ k hk hdk=>?_,h4.keep ht hap⟩
 ·rcases hown k hk with ho | ⟨h5,h6⟩
  ·exact ⟨Nat.lt_of_lt_of_le (h2 k ho).1 ht.size,fun _=>hM k ho⟩
  ·exact ⟨h6,fun _=>.inr (Nat.le_trans hb.size h5)⟩
 ·rcases hown k hk with ho | ⟨h5,_⟩
  ·exact hap d hd k ho hdk
  ·have:=h4.dom d hd k hdk;omega
theorem St.new {w0 w w':World} {M:Nat→Prop} {c':Chunk} {H:List Chunk} (h:St w0 M w H) (ht:Turns (fun _=>False) w w') (hok:c'.ok w')
  (hown:∀ k,c'.own k→w.heap.size≤k∧k<w'.heap.size):St w0 M w' (c'::H):=by
 obtain ⟨hb,h4⟩:=h;refine ⟨hb.turns ht (fun k hk=>hk.elim),hok,fun k hk=>⟨(hown k hk).2,fun _=>.inr (Nat.le_trans hb.size (hown k hk).1)⟩,fun d hd _ k hk hdk=>?_,h4.keep ht (fun _ _ _ hk=>hk.elim)⟩;have:=h4.dom d hd k hdk;have:=(hown k hk).1;omega
theorem St.same {w0 w w':World} {M:Nat→Prop} {H:List Chunk} (h:St w0 M w H) (ht:Turns (fun _=>False) w w'):St w0 M w' H:=
 ⟨h.base.turns ht (fun k hk=>hk.elim),h.sep.keep ht (fun _ _ _ hk=>hk.elim)⟩
theorem Turns.drew (own:Nat→Prop) (w:World):Turns own w w.drew:=⟨rfl,rfl,rfl,Nat.le_refl _,fun _ _ _=>rfl⟩
theorem Turns.alloc (own:Nat→Prop) (w:World) (o:Obj):Turns own w (w.alloc o):=
 ⟨rfl,rfl,rfl,by show w.heap.size≤(w.heap.push o).size;simp,fun k hk _=>by show (w.heap.push o)[k]? = _;rw [Array.getElem?_push,if_neg (by omega)]⟩
theorem Turns.trans {own:Nat→Prop} {a b c:World} (h:Turns own a b) (k:Turns own b c):Turns own a c:=
 ⟨k.os.trans h.os,k.tape.trans h.tape,k.output.trans h.output,Nat.le_trans h.size k.size,fun i hi ho=>(k.same i (Nat.lt_of_lt_of_le hi h.size) ho).trans (h.same i hi ho)⟩
theorem Turns.mono {own own':Nat→Prop} {a b:World} (h:Turns own a b) (hm:∀ k,own k→own' k):Turns own' a b:=
 ⟨h.os,h.tape,h.output,h.size,fun k hk ho=>h.same k hk (fun h=>ho (hm k h))⟩
theorem Turns.grown {w w':World} {r:Option Nat} (h:w.grownBy w' r):Turns (fun j=>r=some j) w w':=
 ⟨h.os,h.tape,h.output,h.size,fun k hk ho=>h.block k hk (fun e=>ho e.symm)⟩
theorem Turns.setRow (w:World) (b:Nat) (cs:Array Value):Turns (fun j=>j=b) w (w.setRow b cs):=
 ⟨rfl,rfl,rfl,by simp,fun k _ ho=>setRow_other w b k cs ho⟩
end
section
set_option maxRecDepth 512
def FW (ro:Option Nat):Fence:={ fn:=fun _=>True,depth:=none,alive:=false,round:=ro }
structure QOk (Q:Exit→Act→World→Prop):Prop where
 panic:∀ c a a' w,a'.defers=a.defers→Q (.panic c) a w→Q (.panic c) a' w
 out:∀ a w,¬ Q .outgrown a w
theorem QOk.then {K:Act→World→Prop} {Q:Exit→Act→World→Prop} (h:QOk Q):QOk (Exit.then K Q):=⟨h.panic,h.out⟩
theorem QOk.block {id:Nat} {Q:Exit→Act→World→Prop} (h:QOk Q):QOk (Exit.inBlock id Q):=⟨h.panic,h.out⟩
theorem calls_fw {ro:Option Nat} {P:Program} {f:FuncId} {args:Array Value} {w:World} {R:Ending→World→Prop} (h:Calls P f args w R):CallsIn (FW ro) 0 P f args w R:=(callsIn_wide (n:=0)).2 h
theorem rows_fw {ro:Option Nat} {P:Program} {row:String} {args:Array Value} {w:World} {R:Value→World→Prop} (h:Rows P row args w R):RowsIn (FW ro) 0 P row args w R:=
 fun c cs _=>let ⟨v,w',r,s⟩:=h c cs; ⟨v,w',r,stepsIn_wide.2 s⟩
theorem oper_fw {ro:Option Nat} {P:Program} {o:Oper} {a:Act} {w:World} {K:Act→World→Prop} {Q:Exit→Act→World→Prop} (hd:∀ c,o.op ≠ .defer c) (h:o.wp P a w K Q):o.wpIn (FW ro) 0 P a w K Q:=by
 refine ⟨fun _ _=>trivial,?_⟩;rw [show o.semAt (FW ro).round a.eval=execOp a.eval o from Oper.semAt_eq _ _ _ hd];unfold Oper.wp at h;generalize (execOp a.eval o).run P w=r at h ⊢;cases r with
 | ok x w'=>
  cases x with
  | enter f args=>exact ⟨fun h=>(by cases h),calls_fw h⟩
  | row r args=>exact ⟨fun h=>(by cases h),rows_fw h⟩
  | _=>first | exact h | exact h.elim
 | halt x w'=>cases x <;> first | exact h | exact h.elim
def noDef:List Oper→Bool
 | []=>true
 | o::L=>match o.op with
  | .defer _=>false
  | _=>noDef L
theorem noDef_mem:∀ {L:List Oper},noDef L=true→∀ o∈L,∀ c,o.op ≠ .defer c
 | [],_,o,ho=>by simp at ho
 | x::L,h,o,ho=>by
  simp only [noDef] at h;split at h
  ·cases h
  ·rename_i hx;rcases List.mem_cons.1 ho with rfl | ho
   ·exact hx
   ·exact noDef_mem h o ho
theorem list_fw {ro:Option Nat} {P:Program} {ops:Array Oper} {Q:Exit→Act→World→Prop} (hq:QOk Q):∀ {L:List Oper} {a:Act} {w:World},noDef L=true→wpList P ops Q L a w→wpListIn (FW ro) 0 P ops Q L a w
 | [],a,w,_,h=>h
 | o::L,a,w,hd,h=>by
  have hd1:=noDef_mem hd o (by simp)
  have hd2:noDef L=true:=by
   unfold noDef at hd;cases ho:o.op <;> simp only [ho] at hd <;> first | exact hd | (exact absurd ho (hd1 _))
  unfold wpList at h;unfold wpListIn;split
  ·rename_i hw;rw [if_pos hw] at h;rcases h with h | ⟨_,x,y,h⟩
   ·exact oper_fw hd1 (Oper.wp_mono (fun a w h=>list_fw hq hd2 h) h)
   ·exact absurd h (hq.out _ _)
  ·rename_i hw;rw [if_neg hw] at h;exact ⟨fun _ _=>trivial,list_fw hq hd2 h⟩
theorem op_fw {ro:Option Nat} {P:Program} {ops:Array Oper} {Q:Exit→Act→World→Prop} (hq:QOk Q) (hd:∀ o∈ops.toList,∀ c,o.op ≠ .defer c) {i:Nat} {K K':Act→World→Prop} (hK:∀ a w,K a w→K' a w) {a:Act} {w:World} (h:wpOp P ops Q i K a w):wpOpIn (FW ro) 0 P ops Q i K' a w:=by
 unfold wpOp at h;unfold wpOpIn;cases ho:ops[i]? with
 | none=>rw [ho] at h;exact hK _ _ h
 | some o=>
  rw [ho] at h;simp only [] at h ⊢
  have hm:o∈ops.toList:=by
   have:=Array.mem_of_getElem? ho
   simpa using this
  split
  ·rename_i hw;rw [if_pos hw] at h;rcases h with h | ⟨_,x,y,h⟩
   ·exact oper_fw (hd o hm) (Oper.wp_mono hK h)
   ·exact absurd h (hq.out _ _)
  ·rename_i hw;rw [if_neg hw] at h;exact ⟨fun _ _=>trivial,hK _ _ h⟩
theorem any_fw {ro:Option Nat} {P:Program} {ops:Array Oper} {Q:Exit→Act→World→Prop} (hq:QOk Q) (hd:∀ o∈ops.toList,∀ c,o.op ≠ .defer c):∀ (fuel:Nat) (listed:Array Bool) (a:Act) (w:World),wpAny P .any ops Q fuel listed a w→wpAnyIn (FW ro) 0 P .any ops Q fuel listed a w
 | 0,_,_,_,h=>h
 | fuel+1,_,_,_,h=>⟨h.1,fun i hi=>op_fw hq hd (fun a w h=>any_fw hq hd fuel _ a w h) (h.2 i hi)⟩
structure XC (P:Program) (n:Cx) (Q:Exit→Act→World→Prop) (E:Env) (c:Code) (w:World):Prop where
 run:QOk Q→∀ a,EnvOk a E n→c.wpIn (FW n.ro) 0 P Q a w
structure XL (P:Program) (ops:Array Oper) (n:Cx) (Q:Exit→Act→World→Prop) (E:Env) (L:List Oper) (w:World):Prop where
 run:QOk Q→∀ a,EnvOk a E n→wpList P ops Q L a w
structure XQ (n:Cx) (Q:Exit→Act→World→Prop) (e:Exit) (E:Env) (w:World):Prop where
 run:QOk Q→∀ a,EnvOk a E n→Q e a w
section
variable {P:Program} {n:Cx} {Q:Exit→Act→World→Prop} {E:Env} {w:World}
theorem envOk_enter {args:List Value} {m:Nat} (hm:Nat.ble args.length m=true) :
  EnvOk { tmps:=args.toArray++Array.replicate (m-args.toArray.size) undef,defers:=[] } (Env.ofArgs 0 args) ⟨m,[],none⟩:=by
 have hm':args.length≤m:=Nat.le_of_ble_eq_true hm;refine ⟨rfl,by simp;omega,fun t v h=>?_⟩;obtain ⟨_,h2⟩:=Env.get_ofArgs args 0 t v h;simp only [Nat.sub_zero] at h2;have hlt:t<args.length:=(List.getElem?_eq_some_iff.1 h2).1;rw [Array.getElem?_append_left (by simpa using hlt)]
 simpa using h2
theorem qok_body {fn:Func} {R:Ending→World→Prop} (hR:∀ w,¬ R .outgrown w):QOk (bodyPost P fn R):=⟨fun c a a' w hd h=>by
 obtain ⟨h1,h2⟩:=h;exact ⟨hd.trans h1,h2⟩,fun a w h=>hR w h⟩
theorem x_enter {f:FuncId} {fn:Func} {c:Code} {args:List Value} {R:Ending→World→Prop} {m:Nat} (hf:P.funcs[f]? = some fn) (hn:fn.ntmps=m) (hb:fn.body=some c) (hm:Nat.ble args.length m=true)
  (hR:∀ w,¬ R .outgrown w) (h:XC P ⟨m,[],none⟩ (bodyPost P fn R) (Env.ofArgs 0 args) c w):Calls P f args.toArray w R:=
 calls_of_wp hf hb ((wpIn_wide (n:=0)).1 (h.run (qok_body hR) _ (by rw [hn];exact envOk_enter hm)))
theorem xc_skip (h:XQ n Q .normal E w):XC P n Q E .skip w:=⟨fun q a ha=>wpIn_skip (h.run q a ha)⟩
theorem xc_ret (h:XQ n Q .ret E w):XC P n Q E .ret w:=⟨fun q a ha=>wpIn_ret (h.run q a ha)⟩
theorem xc_exit {id:Nat} (h:XQ n Q (.exit id) E w):XC P n Q E (.exit id) w:=⟨fun q a ha=>wpIn_exit (h.run q a ha)⟩
theorem xc_label {l:Nat} (h:XQ n Q .normal E w):XC P n Q E (.label l) w:=⟨fun q a ha=>wpIn_label (h.run q a ha)⟩
theorem xc_block {id:Nat} {c:Code} (h:XC P n (Exit.inBlock id Q) E c w):XC P n Q E (.block id c) w:=⟨fun q a ha=>wpIn_block (h.run q.block a ha)⟩
theorem xc_cond_true {c:Operand} {x y:Code} (hc:E.ev c=some (.bool true)) (h:XC P n Q E x w):XC P n Q E (.cond c x y) w:=⟨fun q a ha=>wpIn_cond_true (ha.eval hc) (h.run q a ha)⟩
theorem xc_cond_false {c:Operand} {x y:Code} (hc:E.ev c=some (.bool false)) (h:XC P n Q E y w):XC P n Q E (.cond c x y) w:=⟨fun q a ha=>wpIn_cond_false (ha.eval hc) (h.run q a ha)⟩
theorem xc_region {id:Nat} {l:List Oper} (hd:noDef l=true) (h:∀ ops:Array Oper,ops.toList=l→XL P ops n Q E l w):XC P n Q E (.region id l.toArray false) w:=
 ⟨fun q a ha=>wpIn_region_list (list_fw q (by simpa using hd) (by simpa using (h l.toArray (by simp)).run q a ha))⟩
theorem xl_nil {ops:Array Oper} (h:XQ n Q .normal E w):XL P ops n Q E [] w:=⟨fun q a ha=>wpList_nil (h.run q a ha)⟩
theorem xq_then_ret {K:Act→World→Prop} (h:XQ n Q .ret E w):XQ n (Exit.then K Q) .ret E w:=⟨fun q a ha=>h.run ⟨q.panic,q.out⟩ a ha⟩
theorem xq_then_exit {K:Act→World→Prop} {id:Nat} (h:XQ n Q (.exit id) E w):XQ n (Exit.then K Q) (.exit id) E w:=⟨fun q a ha=>h.run ⟨q.panic,q.out⟩ a ha⟩
theorem xq_in_normal {id:Nat} (h:XQ n Q .normal E w):XQ n (Exit.inBlock id Q) .normal E w:=⟨fun q a ha=>h.run ⟨q.panic,q.out⟩ a ha⟩
theorem xq_in_ret {id:Nat} (h:XQ n Q .ret E w):XQ n (Exit.inBlock id Q) .ret E w:=⟨fun q a ha=>h.run ⟨q.panic,q.out⟩ a ha⟩
theorem xq_in_exit {id:Nat} (h:XQ n Q .normal E w):XQ n (Exit.inBlock id Q) (.exit id) E w:=⟨fun q a ha=>by
 show (if id=id then Q .normal a w else Q (.exit id) a w)
 rw [if_pos rfl];exact h.run ⟨q.panic,q.out⟩ a ha⟩
theorem xq_in_other {id id':Nat} (hne:Nat.beq id' id=false) (h:XQ n Q (.exit id') E w):XQ n (Exit.inBlock id Q) (.exit id') E w:=⟨fun q a ha=>by
 show (if id'=id then Q .normal a w else Q (.exit id') a w)
 rw [if_neg (fun e=>by subst e;simp at hne)];exact h.run ⟨q.panic,q.out⟩ a ha⟩
theorem xq_ret {fn:Func} {R:Ending→World→Prop} {e:Exit} {v:Value} (hds:n.ds=[]) (he:e = .ret∨e = .normal) (hr:∀ a,EnvOk a E n→(results fn a.tmps).run P w = .ok v w) (h:R (.returned v) w):XQ n (bodyPost P fn R) e E w:=by
 refine ⟨fun q a ha=>?_⟩;rcases he with rfl | rfl <;> exact ⟨ha.defers.trans hds,v,hr a ha,h⟩
theorem xl_step {ops:Array Oper} {o:Oper} {L:List Oper} {d:Nat} {v:Value} (hg:o.guard=none) (hd:o.dst=some d) (hn:Nat.blt d n.m=true)
  (hr:∀ a,EnvOk a E n→(execOp a.eval o).run P w = .ok (.value v) w) (h:XL P ops n Q ((d,v)::E) L w):XL P ops n Q E (o::L) w:=by
 refine ⟨fun q a ha=>?_⟩;refine wpList_plain hg fun K hK=>?_
 unfold Oper.wp;rw [hr a ha,Oper.upon_value,hd];exact hK _ _ (h.run q _ (ha.put hn))
theorem xl_step_w {ops:Array Oper} {o:Oper} {L:List Oper} {d:Nat} (hg:o.guard=none) (hd:o.dst=some d) (hn:Nat.blt d n.m=true)
  (hr:∀ a,EnvOk a E n→∃ v w',(execOp a.eval o).run P w = .ok (.value v) w'∧XL P ops n Q ((d,v)::E) L w'):XL P ops n Q E (o::L) w:=by
 refine ⟨fun q a ha=>?_⟩;refine wpList_plain hg fun K hK=>?_
 obtain ⟨v,w',h1,h2⟩:=hr a ha;unfold Oper.wp;rw [h1,Oper.upon_value,hd];exact hK _ _ (h2.run q _ (ha.put hn))
theorem xl_step_u {ops:Array Oper} {o:Oper} {L:List Oper} (hg:o.guard=none) (hd:o.dst=none)
  (hr:∀ a,EnvOk a E n→∃ w',(execOp a.eval o).run P w = .ok .skip w'∧XL P ops n Q E L w'):XL P ops n Q E (o::L) w:=by
 refine ⟨fun q a ha=>?_⟩;refine wpList_plain hg fun K hK=>?_
 obtain ⟨w',h1,h2⟩:=hr a ha;unfold Oper.wp;rw [h1,Oper.upon_skip,hd];exact hK _ _ (h2.run q _ ha.put_none)
def gno (v:Value) (want:Bool):Bool:=match v with
 | .bool got=>got == !want
 | .tuple _=>true
 | _=>false
end
end
section
set_option maxRecDepth 512
structure TyI where
 desc:TypeDesc
 size:Nat
 bytes:Nat
 zero:List Value
structure Tab (P:Program) where
 tab:List (Nat×TyI)
 ok:∀ t i,(t,i)∈tab→P.underlying t=some i.desc∧∃ ti z,P.info? t=some ti∧ti.size=i.size∧ti.bytes=i.bytes∧ti.zero=some z∧z.cells=i.zero.toArray
def findT:List (Nat×TyI)→Nat→Option TyI
 | [],_=>none
 | (d,v)::E,t=>bif Nat.beq d t then some v else findT E t
theorem findT_mem:∀ {l:List (Nat×TyI)} {t:Nat} {i:TyI},findT l t=some i→(t,i)∈l
 | [],t,i,h=>by simp [findT] at h
 | (d,v)::E,t,i,h=>by
  simp only [findT] at h;cases hb:Nat.beq d t with
  | true=>
   simp only [hb,cond_true,Option.some.injEq] at h;have:=Nat.eq_of_beq_eq_true hb;subst this;subst h;simp
  | false=>
   simp only [hb,cond_false] at h;simp [findT_mem h]
def Tab.get {P:Program} (T:Tab P) (t:Nat):Option TyI:=findT T.tab t
theorem Tab.und {P:Program} (T:Tab P) {t:Nat} {i:TyI} (h:T.get t=some i):P.underlying t=some i.desc:=(T.ok t i (findT_mem h)).1
theorem Tab.inf {P:Program} (T:Tab P) {t:Nat} {i:TyI} (h:T.get t=some i):∃ ti z,P.info? t=some ti∧ti.size=i.size∧ti.bytes=i.bytes∧ti.zero=some z∧z.cells=i.zero.toArray:=(T.ok t i (findT_mem h)).2
def isAggD:TypeDesc→Bool
 | .struct _ | .array _ _=>true
 | _=>false
def nth:List Value→Nat→Option Value
 | [],_=>none
 | v::_,0=>some v
 | _::l,i+1=>nth l i
theorem nth_eq:∀ (l:List Value) (i:Nat),nth l i=l[i]?
 | [],i=>by simp [nth]
 | v::l,0=>by simp [nth]
 | v::l,i+1=>by simp [nth,nth_eq l i]
def nths (l:List Value):Nat→Nat→Option (List Value)
 | _,0=>some []
 | i,m+1=>match nth l i,nths l (i+1) m with
  | some v,some vs=>some (v::vs)
  | _,_=>none
theorem nths_spec:∀ {l:List Value} {m i:Nat} {vs:List Value},nths l i m=some vs→vs.length=m∧∀ j,j<m→l[i+j]? = vs[j]?
 | l,0,i,vs,h=>by simp only [nths,Option.some.injEq] at h;subst h;simp
 | l,m+1,i,vs,h=>by
  simp only [nths] at h;cases h1:nth l i with
  | none=>simp [h1] at h
  | some v=>
   cases h2:nths l (i+1) m with
   | none=>simp [h1,h2] at h
   | some us=>
    simp only [h1,h2,Option.some.injEq] at h;subst h;obtain ⟨g1,g2⟩:=nths_spec h2;refine ⟨by simp [g1],fun j hj=>?_⟩;cases j with
    | zero=>rw [nth_eq] at h1;simp [h1]
    | succ j=>rw [show i+(j+1)=i+1+j by omega,g2 j (by omega)];simp
def packV (agg:Bool) (vs:List Value):Option Value:=if agg then some (.agg vs.toArray) else match vs with
 | [v]=>some v
 | _=>none
def binB (op:BinOp) (x y:Value):Option Value:=
 match x,y with
 | .int k a,.int k' b=>if k=k' then (match op with
  | .eql=>some (.bool (a == b))
  | .neq=>some (.bool (a != b))
  | .lss=>some (.bool (decide (a<b)))
  | .leq=>some (.bool (decide (a≤b)))
  | .gtr=>some (.bool (decide (a>b)))
  | .geq=>some (.bool (decide (a≥b)))
  | .and=>some (.int k (bits .and k a b))
  | .or=>some (.int k (bits .or k a b))
  | .xor=>some (.int k (bits .xor k a b))
  | _=>none) else none
 | .string a,.string b=>(match op with
  | .eql=>some (.bool (decide (a=b)))
  | .neq=>some (.bool (!decide (a=b)))
  | _=>none)
 | _,_=>none
def evalP {P:Program} (T:Tab P) (E:Env):Op→Option Value
 | .move x | .assign x=>E.ev x
 | .pick c a b=>match E.ev c with
  | some (.bool true)=>E.ev a
  | some (.bool false)=>E.ev b
  | _=>none
 | .nilCheck x=>match E.ev x with
  | some (.pointer (some a))=>some (.pointer (some a))
  | some (.func (.func f) l c)=>some (.func (.func f) l c)
  | _=>none
 | .extract x i=>match E.ev x with
  | some (.tuple vs)=>nth vs.toList i
  | _=>none
 | .unOp .not _ x=>match E.ev x with
  | some (.bool b)=>some (.bool !b)
  | _=>none
 | .binOp op _ x y _=>match E.ev x,E.ev y with
  | some a,some b=>binB op a b
  | _,_=>none
 | .makeFunc (.func f) first captured=>match E.evs first.toList,E.evs captured.toList with
  | some l,some c=>some (.func (.func f) l.toArray c.toArray)
  | _,_=>none
 | .fieldAddr s x f=>match E.ev x,T.get s with
  | some (.pointer (some ⟨b,o,none⟩)),some i=>(match i.desc with
   | .struct fields=>(match fields.toList[f]? with
    | some ⟨_,fty,foff,_,_,_,_⟩=>(match T.get fty with
     | some ⟨_,fsz,_,_⟩=>if fsz=0 then none else some (.pointer (some ⟨b,o+foff,none⟩))
     | none=>none)
    | none=>none)
   | _=>none)
  | _,_=>none
 | .field s x f=>match E.ev x,T.get s with
  | some (.agg cs),some i=>(match i.desc with
   | .struct fields=>(match fields.toList[f]? with
    | some fd=>(match T.get fd.type with
     | some fi=>(match nths cs.toList fd.offset fi.size with
      | some vs=>packV (isAggD fi.desc) vs
      | none=>none)
     | none=>none)
    | none=>none)
   | _=>none)
  | _,_=>none
 | .convert src dst x=>match T.get src,T.get dst,E.ev x with
  | some _,some j,some v=>(match j.desc,v with
   | .int k,.int _ m=>some (.int k (k.wrap m))
   | .string,.string s=>some (.string s)
   | _,_=>none)
  | _,_,_=>none
 | .call c=>match c.callee,c.args.toList,c.argTypes.toList with
  | .builtin .len,[x],[t]=>(match T.get t,E.ev x with
   | some i,some v=>(match i.desc,v with
    | .slice _,.slice _ m _=>some (.int .i64 (m:Int))
    | .string,.string s=>some (.int .i64 (s.size:Int))
    | .array m _,_=>some (.int .i64 (m:Int))
    | _,_=>none)
   | _,_=>none)
  | _,_,_=>none
 | _=>none
end
section
set_option maxRecDepth 512
section
variable {P:Program} {n:Cx} {E:Env} {a:Act} {w:World}
theorem run_part {T:Tab P} {t:TypeId} {i:TyI} {cs:Array Value} {off:Nat} {vs:List Value} {v:Value} (ht:T.get t=some i) (hn:nths cs.toList off i.size=some vs) (hv:packV (isAggD i.desc) vs=some v) :
  (part t cs off).run P w = .ok v w:=by
 obtain ⟨ti,z,h1,h2,_,_,_⟩:=T.inf ht;have hu:=T.und ht;obtain ⟨hl,hj⟩:=nths_spec hn
 have hagg:(isAgg t).run P w = .ok (isAggD i.desc) w:=by
  unfold isAgg;rw [Sem.run_bind,run_underlying hu w];cases i.desc <;> rfl
 unfold part;rw [Sem.run_bind,hagg];simp only [Result.andThen_ok];cases hb:isAggD i.desc with
 | true=>
  simp only [hb,packV,if_true,Option.some.injEq] at hv ⊢;subst hv;simp only [Sem.run_bind,sizeOf,typeInfo,program,Sem.run,h1,Sem.run_pure,Result.andThen_ok]
  congr 2
  apply Array.ext_getElem?;intro k;simp only [Array.getElem?_extract,List.getElem?_toArray,h2];by_cases hk:k<i.size
  ·have hlt:off+k<cs.size:=by
    have:=hj k hk;have hsome:(vs[k]?).isSome:=by simp [hl,hk]
    rw [← this] at hsome
    simpa using hsome
   rw [← hj k hk];rw [if_pos (by omega)];simp
  ·rw [if_neg (by omega),List.getElem?_eq_none (by omega)]
 | false=>
  simp only [hb,packV,Bool.false_eq_true,if_false] at hv
  match vs,hv,hl,hj with
  | [u],hv,hl,hj=>
   simp only [Option.some.injEq] at hv;subst hv;simp only [List.length_singleton] at hl;have:=hj 0 (by omega);simp only [Nat.add_zero,List.getElem?_cons_zero] at this;have e:cs[off]? = some u:=by simpa using this
   simp [e]
theorem beq_bytes (x y:ByteArray):(x.toList == y.toList)=decide (x=y):=by
 rw [ByteArray.toList_eq,ByteArray.toList_eq,Bool.eq_iff_iff];simp only [beq_iff_eq,decide_eq_true_eq];constructor
 ·intro h;cases x;cases y
  congr 1
  exact Array.ext' h
 ·intro h;rw [h]
theorem binB_run {op:BinOp} {t:TypeId} {x y:Operand} {u v r:Value} (h:binB op u v=some r):(do eqGuard op t x y u v;binOp op t u v:Sem Value).run P w = .ok r w:=by
 unfold binB at h;split at h
 ·rename_i k a' k' b';split at h
  ·rename_i hk;subst hk
   have hg:(eqGuard op t x y (.int k a') (.int k b')).run P w = .ok () w:=by
    unfold eqGuard;cases op <;> simp
   rw [Sem.run_bind,hg];simp only [Result.andThen_ok];cases op <;> simp only [Option.some.injEq,reduceCtorEq] at h <;> subst h <;> first | rfl | simp [binOp,Op.intCmp,Op.intBits,bits]
  ·cases h
 ·rename_i a' b'
  have hg:(eqGuard op t x y (.string a') (.string b')).run P w = .ok () w:=by
   unfold eqGuard;cases op <;> simp
  rw [Sem.run_bind,hg];simp only [Result.andThen_ok];cases op <;> simp only [Option.some.injEq,reduceCtorEq] at h <;> subst h <;> simp [binOp,Op.stringOp,beq_bytes]
 ·cases h
theorem evalP_run {T:Tab P} {o:Oper} {v:Value} (h:evalP T E o.op=some v) (ha:EnvOk a E n):(execOp a.eval o).run P w = .ok (.value v) w:=by
 obtain ⟨dst,op,ty,pos,after,guard⟩:=o;dsimp only at h;cases op <;> simp only [evalP,reduceCtorEq] at h
 case move x=>simp only [execOp,ha.eval h];rfl
 case assign x=>simp only [execOp,ha.eval h];rfl
 case pick c x y=>
  split at h
  ·rename_i hc;simp [execOp,ha.eval hc,ha.eval h,asBool]
  ·rename_i hc;simp [execOp,ha.eval hc,ha.eval h,asBool]
  ·cases h
 case nilCheck x=>
  split at h
  ·rename_i p hx;cases h;simp [execOp,ha.eval hx]
  ·rename_i f l c hx;cases h;simp [execOp,ha.eval hx]
  ·cases h
 case extract x i=>
  split at h
  ·rename_i vs hx;rw [nth_eq] at h;have e:vs[i]? = some v:=by simpa using h
   simp [execOp,ha.eval hx,Instr.extract,e]
  ·cases h
 case unOp op xt x=>
  cases op <;> simp only [reduceCtorEq] at h
  split at h
  ·rename_i b hx;cases h;simp [execOp,ha.eval hx,Op.unary]
  ·cases h
 case binOp op xt x y yt=>
  split at h
  ·rename_i u1 u2 h1 h2;simp only [execOp,ha.eval h1,ha.eval h2];have:=binB_run (P:=P) (w:=w) (t:=xt) (x:=x) (y:=y) h;rw [Sem.run_bind,this];rfl
  ·cases h
 case makeFunc fn first captured=>
  cases fn <;> simp only [reduceCtorEq] at h
  rename_i f;split at h
  ·rename_i l c h1 h2;cases h
   have e1:first.map a.eval=l.toArray:=by
    apply Array.ext'
    simpa using ha.evals h1
   have e2:captured.map a.eval=c.toArray:=by
    apply Array.ext'
    simpa using ha.evals h2
   simp [execOp,Instr.makeFunc,e1,e2]
  ·cases h
 case fieldAddr s x f=>
  split at h
  ·rename_i b off i hx hi;split at h
   ·rename_i fields hd;split at h
    ·rename_i f1 f2 f3 f4 f5 f6 f7 hfd;split at h
     ·rename_i d1 d2 d3 d4 hfi;split at h
      ·cases h
      ·rename_i hz;cases h;have hu:=T.und hi;rw [hd] at hu;obtain ⟨ti,z,g1,g2,_,_,_⟩:=T.inf hfi;have hfd':fields[f]? = some ⟨f1,f2,f3,f4,f5,f6,f7⟩:=by simpa using hfd
       have hz':¬ ti.size=0:=by rw [g2];exact hz
       simp only [execOp,ha.eval hx,Instr.fieldAt,Sem.run_bind,run_underlying hu,Result.andThen_ok,hfd',Instr.sureAddr,Sem.run_pure,fieldPlace,sizeOf,typeInfo,program,Sem.run,g1,if_neg hz'];simp only [Addr.add];split
       ·rename_i h0;simp [h0]
       ·rfl
     ·cases h
    ·cases h
   ·cases h
  ·cases h
 case field s x f=>
  split at h
  ·rename_i cs i hx hi;split at h
   ·rename_i fields hd;split at h
    ·rename_i fd hfd;split at h
     ·rename_i fi hfi;split at h
      ·rename_i vs hvs;have hu:=T.und hi;rw [hd] at hu;have hfd':fields[f]? = some fd:=by simpa using hfd
       simp only [execOp,ha.eval hx,Instr.field,Sem.run_bind,run_underlying hu,Result.andThen_ok,hfd',asAgg,Sem.run_pure,run_part hfi hvs h]
      ·cases h
     ·cases h
    ·cases h
   ·cases h
  ·cases h
 case convert src dst x=>
  split at h
  ·rename_i i j u hi hj hx;have hu1:=T.und hi;have hu2:=T.und hj;split at h
   ·rename_i k k' m hd;cases h;rw [hd] at hu2;simp only [execOp,ha.eval hx,convert,Sem.run_bind,run_underlying hu1,run_underlying hu2,Result.andThen_ok];cases i.desc <;> simp [Conv.intToInt]
   ·rename_i s hd;cases h;rw [hd] at hu2;simp only [execOp,ha.eval hx,convert,Sem.run_bind,run_underlying hu1,run_underlying hu2,Result.andThen_ok];cases i.desc <;> simp
   ·cases h
  ·cases h
 case call c=>
  obtain ⟨callee,args,argTypes⟩:=c;split at h
  ·rename_i x t hc hargs hts;dsimp only at hc hargs hts;subst hc;obtain rfl:args = #[x]:=by apply Array.ext';simpa using hargs
   obtain rfl:argTypes = #[t]:=by apply Array.ext';simpa using hts
   split at h
   ·rename_i i u hi hx;have hu:=T.und hi;split at h
    ·rename_i m hd;cases h;rw [hd] at hu;simp [execOp,resolve,invoke,builtin,ha.eval hx,Builtin.len_,run_underlying hu,goInt]
    ·rename_i s hd;cases h;rw [hd] at hu;simp [execOp,resolve,invoke,builtin,ha.eval hx,Builtin.len_,run_underlying hu,goInt]
    ·rename_i m hd;cases h;rw [hd] at hu;simp [execOp,resolve,invoke,builtin,ha.eval hx,Builtin.len_,run_underlying hu,goInt]
    ·cases h
   ·cases h
  ·cases h
end
end
section
set_option maxRecDepth 512
section
variable {P:Program} {T:Tab P} {n:Cx} {Q:Exit→Act→World→Prop} {E:Env} {w w0:World} {M:Nat→Prop} {H H':List Chunk} {ops:Array Oper} {L:List Oper}
 {d:Nat} {ty:TypeId} {pos:String} {after:Array Edge}
structure Gives (P:Program) (n:Cx) (E:Env) (op:Op) (ty:TypeId) (v:Value):Prop where
 run:∀ (dst:Option Tmp) (pos:String) (after:Array Edge) (g:Option (Nat×Bool)) (a:Act),EnvOk a E n→∀ w,(execOp a.eval ⟨dst,op,ty,pos,after,g⟩).run P w = .ok (.value v) w
theorem xl_g {op:Op} {v:Value} (hv:Gives P n E op ty v) (hn:Nat.blt d n.m=true) (h:XL P ops n Q ((d,v)::E) L w):XL P ops n Q E (⟨some d,op,ty,pos,after,none⟩::L) w:=
 xl_step rfl rfl hn (fun a ha=>hv.run _ _ _ _ a ha w) h
theorem g_pure (T:Tab P) {op:Op} {v:Value} (hv:evalP T E op=some v):Gives P n E op ty v:=.mk <| fun _ _ _ _ _ ha _=>evalP_run (T:=T) hv ha
def inK (k:IntKind) (m:Int):Prop:=k.min≤m∧m≤k.max
theorem wrap_in {k:IntKind} {m:Int} (h:inK k m):k.wrap m=m:=by
 unfold inK at h;cases k <;> simp [IntKind.min,IntKind.max,IntKind.wrap,IntKind.signed,IntKind.bits] at h ⊢ <;> (try split) <;> omega
theorem inK_i64 {m:Int} (h0 : -9223372036854775808≤m) (h1:m≤9223372036854775807):inK .i64 m:=by
 simp [inK,IntKind.min,IntKind.max,IntKind.signed,IntKind.bits];omega
theorem inK_i32 {m:Int} (h0 : -2147483648≤m) (h1:m≤2147483647):inK .i32 m:=by
 simp [inK,IntKind.min,IntKind.max,IntKind.signed,IntKind.bits];omega
theorem inK_u8 {m:Int} (h0:0≤m) (h1:m≤255):inK .u8 m:=by
 simp [inK,IntKind.min,IntKind.max,IntKind.signed,IntKind.bits];omega
theorem inK_u64 {m:Int} (h0:0≤m) (h1:m≤18446744073709551615):inK .u64 m:=by
 simp [inK,IntKind.min,IntKind.max,IntKind.signed,IntKind.bits];omega
def arith (op:BinOp) (a b:Int):Option Int:=
 match op with
 | .add=>some (a+b)
 | .sub=>some (a-b)
 | .mul=>some (a*b)
 | _=>none
theorem run_arith {op:BinOp} {t:TypeId} {x y:Operand} {k:IntKind} {a b r:Int} (h:arith op a b=some r):(do eqGuard op t x y (.int k a) (.int k b);binOp op t (.int k a) (.int k b):Sem Value).run P w = .ok (.int k (k.wrap r)) w:=by
 cases op <;> simp only [arith,reduceCtorEq,Option.some.injEq] at h <;> subst h <;> simp [eqGuard,binOp,Op.intArith]
theorem g_wrap {op:BinOp} {x y:Operand} {t u:TypeId} {k:IntKind} {a b r:Int} (hx:E.ev x=some (.int k a)) (hy:E.ev y=some (.int k b)) (hr:arith op a b=some r):Gives P n E (.binOp op t x y u) ty (.int k (k.wrap r)):=
 .mk <| fun _ _ _ _ act ha w=>by
  have:=run_arith (P:=P) (w:=w) (t:=t) (x:=x) (y:=y) (k:=k) hr;simp only [execOp,ha.eval hx,ha.eval hy];rw [Sem.run_bind,this];rfl
theorem g_arith {op:BinOp} {x y:Operand} {t u:TypeId} {k:IntKind} {a b r:Int} (hx:E.ev x=some (.int k a)) (hy:E.ev y=some (.int k b)) (hr:arith op a b=some r) (hin:inK k r):Gives P n E (.binOp op t x y u) ty (.int k r):=
 by rw [← wrap_in hin];exact g_wrap hx hy hr
theorem g_div {op:BinOp} {x y:Operand} {t u:TypeId} {k:IntKind} {a b:Int} (hx:E.ev x=some (.int k a)) (hy:E.ev y=some (.int k b)) (hop:op = .quo) (hb:b≠0):Gives P n E (.binOp op t x y u) ty (.int k (k.wrap (a.tdiv b))):=
 .mk <| fun _ _ _ _ act ha w=>by
  subst hop;simp [execOp,ha.eval hx,ha.eval hy,eqGuard,binOp,Op.intDiv,hb]
theorem g_mod {op:BinOp} {x y:Operand} {t u:TypeId} {k:IntKind} {a b:Int} (hx:E.ev x=some (.int k a)) (hy:E.ev y=some (.int k b)) (hop:op = .rem) (hb:b≠0):Gives P n E (.binOp op t x y u) ty (.int k (a.tmod b)):=
 .mk <| fun _ _ _ _ act ha w=>by
  subst hop;simp [execOp,ha.eval hx,ha.eval hy,eqGuard,binOp,Op.intDiv,hb]
theorem g_neg {x:Operand} {t:TypeId} {k:IntKind} {a:Int} (hx:E.ev x=some (.int k a)) (hin:inK k (-a)):Gives P n E (.unOp .neg t x) ty (.int k (-a)):=
 .mk <| fun _ _ _ _ act ha w=>by
  simp [execOp,ha.eval hx,Op.unary,Op.intArith,wrap_in hin]
theorem g_neg_wrap {x:Operand} {t:TypeId} {k:IntKind} {a:Int} (hx:E.ev x=some (.int k a)):Gives P n E (.unOp .neg t x) ty (.int k (k.wrap (-a))):=
 .mk <| fun _ _ _ _ act ha w=>by
  simp [execOp,ha.eval hx,Op.unary,Op.intArith]
theorem g_shl {op:BinOp} {x y:Operand} {t u:TypeId} {k k':IntKind} {a b:Int} (hx:E.ev x=some (.int k a)) (hy:E.ev y=some (.int k' b)) (hop:op = .shl) (hb:0≤b):Gives P n E (.binOp op t x y u) ty (.int k (k.wrap (a*2 ^ (min b.toNat k.bits)))):=
 .mk <| fun _ _ _ _ act ha w=>by
  subst hop;have hb':¬ b<0:=by omega
  simp [execOp,ha.eval hx,ha.eval hy,eqGuard,binOp,Op.shift,hb']
theorem g_shr {op:BinOp} {x y:Operand} {t u:TypeId} {k k':IntKind} {a b:Int} (hx:E.ev x=some (.int k a)) (hy:E.ev y=some (.int k' b)) (hop:op = .shr) (hb:0≤b):Gives P n E (.binOp op t x y u) ty (.int k (a / 2 ^ (min b.toNat k.bits))):=
 .mk <| fun _ _ _ _ act ha w=>by
  subst hop;have hb':¬ b<0:=by omega
  have hp:(0:Int)≤2 ^ (min b.toNat k.bits):=Int.le_of_lt (Int.pow_pos (by decide));simp [execOp,ha.eval hx,ha.eval hy,eqGuard,binOp,Op.shift,hb',Int.fdiv_eq_ediv_of_nonneg a hp]
theorem g_concat {x y:Operand} {t u:TypeId} {a b:ByteArray} (hx:E.ev x=some (.string a)) (hy:E.ev y=some (.string b)) (hs:a.size+b.size≤9223372036854775807):Gives P n E (.binOp .add t x y u) ty (.string (a++b)):=
 .mk <| fun _ _ _ _ act ha w=>by
  have hs':¬ (((a.size+b.size:Nat):Int)>IntKind.i64.max):=by
   simp [IntKind.max,IntKind.signed,IntKind.bits];omega
  simp only [execOp,ha.eval hx,ha.eval hy,eqGuard,binOp,Op.stringOp,if_neg hs'];simp
theorem g_indexAddr (T:Tab P) {x y:Operand} {t:TypeId} {i:TyI} {ud:TypeDesc} {us ub:Nat} {uz:List Value} {e:TypeId} {k:IntKind} {m:Int} {b o len cap:Nat} (hx:E.ev x=some (.slice (some ⟨b,o,none⟩) len cap)) (hy:E.ev y=some (.int k m)) (ht:T.get t=some i) (hi:i.desc = .slice e)
  (he:T.get e=some ⟨ud,us,ub,uz⟩) (h0:0≤m) (h1:m<len):Gives P n E (.indexAddr t x y) ty (.pointer (some ⟨b,o+m.toNat*us,none⟩)):=
 .mk <| fun _ _ _ _ act ha w=>by
  have hu:=T.und ht;rw [hi] at hu;obtain ⟨ti,z,g1,g2,_,_,_⟩:=T.inf he
  have hadd:(⟨b,o,none⟩:Addr).add (m.toNat*us)=⟨b,o+m.toNat*us,none⟩:=by
   unfold Addr.add;split
   ·rename_i hz;rw [hz];rfl
   ·rfl
  simp [execOp,ha.eval hx,ha.eval hy,Instr.indexAt,asIntOf,run_underlying hu,h0,h1,sizeOf,typeInfo,program,Sem.run,g1,g2,hadd]
theorem g_indexAddrG (T:Tab P) {x y:Operand} {t:TypeId} {i:TyI} {ud:TypeDesc} {us ub:Nat} {uz:List Value} {e:TypeId} {k:IntKind} {m:Int} {a:Addr} {len cap:Nat} (hx:E.ev x=some (.slice (some a) len cap)) (hy:E.ev y=some (.int k m)) (ht:T.get t=some i) (hi:i.desc = .slice e)
  (he:T.get e=some ⟨ud,us,ub,uz⟩) (h0:0≤m) (h1:m<len):Gives P n E (.indexAddr t x y) ty (.pointer (some (a.add (m.toNat*us)))):=
 .mk <| fun _ _ _ _ act ha w=>by
  have hu:=T.und ht;rw [hi] at hu;obtain ⟨ti,z,g1,g2,_,_,_⟩:=T.inf he;simp [execOp,ha.eval hx,ha.eval hy,Instr.indexAt,asIntOf,run_underlying hu,h0,h1,sizeOf,typeInfo,program,Sem.run,g1,g2]
theorem g_indexAddrA (T:Tab P) {x y:Operand} {t:TypeId} {i:TyI} {ud:TypeDesc} {us ub:Nat} {uz:List Value} {e:TypeId} {k:IntKind} {m:Int} {b o len:Nat} (hx:E.ev x=some (.pointer (some ⟨b,o,none⟩))) (hy:E.ev y=some (.int k m)) (ht:T.get t=some i) (hi:i.desc = .array len e)
  (he:T.get e=some ⟨ud,us,ub,uz⟩) (h0:0≤m) (h1:m<len):Gives P n E (.indexAddr t x y) ty (.pointer (some ⟨b,o+m.toNat*us,none⟩)):=
 .mk <| fun _ _ _ _ act ha w=>by
  have hu:=T.und ht;rw [hi] at hu;obtain ⟨ti,z,g1,g2,_,_,_⟩:=T.inf he
  have hadd:(⟨b,o,none⟩:Addr).add (m.toNat*us)=⟨b,o+m.toNat*us,none⟩:=by
   unfold Addr.add;split
   ·rename_i hz;rw [hz];rfl
   ·rfl
  simp [execOp,ha.eval hx,ha.eval hy,Instr.indexAt,Instr.sureAddr,asIntOf,run_underlying hu,h0,h1,sizeOf,typeInfo,program,Sem.run,g1,g2,hadd]
theorem g_index (T:Tab P) {x y:Operand} {t:TypeId} {i:TyI} {k:IntKind} {m:Int} {s:ByteArray} {c:UInt8} (hx:E.ev x=some (.string s)) (hy:E.ev y=some (.int k m)) (ht:T.get t=some i) (hi:i.desc = .string)
  (h0:0≤m) (hc:s[m.toNat]? = some c):Gives P n E (.index t x y) ty (.int .u8 (c.toNat:Int)):=
 .mk <| fun _ _ _ _ act ha w=>by
  have hu:=T.und ht;rw [hi] at hu;simp [execOp,ha.eval hx,ha.eval hy,Instr.index,asIntOf,run_underlying hu,h0,hc]
def optI (E:Env):Option Operand→Option (Option Int)
 | none=>some none
 | some x=>match E.ev x with
  | some (.int _ m)=>some (some m)
  | _=>none
theorem optI_some {a:Act} (ha:EnvOk a E n) {x:Option Operand} {r:Option Int} (h:optI E x=some r):(x=none∧r=none)∨∃ y k m,x=some y∧a.eval y = .int k m∧r=some m:=by
 cases x with
 | none=>simp [optI] at h;exact .inl ⟨rfl,h.symm⟩
 | some y=>
  simp only [optI] at h;split at h
  ·rename_i k m hm;cases h;exact .inr ⟨y,k,m,rfl,ha.eval hm,rfl⟩
  ·cases h
theorem g_fieldAddrG (T:Tab P) {x:Operand} {s:TypeId} {f:Nat} {i fi:TyI} {fields:Array Field} {fnm ftg fpk:String} {fty foff fby:Nat} {fem:Bool} {a:Addr} (hx:E.ev x=some (.pointer (some a))) (ht:T.get s=some i) (hi:i.desc = .struct fields) (hf:fields.toList[f]? = some ⟨fnm,fty,foff,fem,ftg,fpk,fby⟩) (hfi:T.get fty=some fi) (hz:Nat.blt 0 fi.size=true) :
  Gives P n E (.fieldAddr s x f) ty (.pointer (some (a.add foff))):=
 .mk <| fun _ _ _ _ act ha w=>by
  have hu:=T.und ht;rw [hi] at hu;obtain ⟨ti,z,g1,g2,_,_,_⟩:=T.inf hfi;have hz':ti.size≠0:=by rw [g2];simp [Nat.blt_eq] at hz;omega
  have hf':fields[f]? = some ⟨fnm,fty,foff,fem,ftg,fpk,fby⟩:=by simpa using hf
  simp only [execOp,ha.eval hx,Instr.fieldAt,Sem.run_bind,run_underlying hu,Result.andThen_ok,hf',Instr.sureAddr,Sem.run_pure,fieldPlace,sizeOf,typeInfo,program,Sem.run,g1,if_neg hz']
theorem g_sliceS (T:Tab P) {x:Operand} {lo hi:Option Operand} {t:TypeId} {i:TyI} {s:ByteArray} {l r:Option Int} (hx:E.ev x=some (.string s)) (hl:optI E lo=some l) (hh:optI E hi=some r) (ht:T.get t=some i) (hi':i.desc = .string)
  (h0:0≤l.getD 0) (h1:l.getD 0≤r.getD s.size) (h2:r.getD s.size≤s.size):Gives P n E (.slice t x lo hi none) ty (.string (s.extract (l.getD 0).toNat (r.getD s.size).toNat)):=
 .mk <| fun _ _ _ _ act ha w=>by
  have hu:=T.und ht;rw [hi'] at hu;rcases optI_some ha hl with ⟨rfl,rfl⟩ | ⟨yl,kl,ml,rfl,el,rfl⟩ <;> rcases optI_some ha hh with ⟨rfl,rfl⟩ | ⟨yr,kr,mr,rfl,er,rfl⟩
  ·simp [execOp,ha.eval hx,Instr.sliceAt,Instr.slice,Instr.sliceBounds,run_underlying hu]
  ·simp only [Option.getD] at h0 h1 h2;simp [execOp,ha.eval hx,Instr.sliceAt,Instr.slice,Instr.sliceBounds,Instr.sliceBound,asIntOf,run_underlying hu,er,h2,show 0≤mr by omega]
  ·simp only [Option.getD] at h0 h1 h2;simp [execOp,ha.eval hx,Instr.sliceAt,Instr.slice,Instr.sliceBounds,Instr.sliceBound,asIntOf,run_underlying hu,el,h0,h1]
  ·simp only [Option.getD] at h0 h1 h2;simp [execOp,ha.eval hx,Instr.sliceAt,Instr.slice,Instr.sliceBounds,Instr.sliceBound,asIntOf,run_underlying hu,el,er,h0,h2,show 0≤mr by omega];intro hc;exfalso;omega
def sliceV (ao:Option Addr) (cap sz l r:Nat):Value:=.slice (if cap=l then ao else ao.map (·.add (l*sz))) (r-l) (cap-l)
theorem g_slice (T:Tab P) {x:Operand} {lo hi:Option Operand} {t e:TypeId} {i:TyI} {ud:TypeDesc} {us ub:Nat} {uz:List Value} {ao:Option Addr} {len cap:Nat} {l r:Option Int} (hx:E.ev x=some (.slice ao len cap)) (hl:optI E lo=some l) (hh:optI E hi=some r) (ht:T.get t=some i) (hi':i.desc = .slice e)
  (he:T.get e=some ⟨ud,us,ub,uz⟩) (h0:0≤l.getD 0) (h1:l.getD 0≤r.getD len) (h2:r.getD len≤cap):Gives P n E (.slice t x lo hi none) ty (sliceV ao cap us (l.getD 0).toNat (r.getD len).toNat):=
 .mk <| fun _ _ _ _ act ha w=>by
  have hu:=T.und ht;rw [hi'] at hu;obtain ⟨ti,z,g1,g2,_,_,_⟩:=T.inf he;rcases optI_some ha hl with ⟨rfl,rfl⟩ | ⟨yl,kl,ml,rfl,el,rfl⟩ <;> rcases optI_some ha hh with ⟨rfl,rfl⟩ | ⟨yr,kr,mr,rfl,er,rfl⟩
  ·simp [execOp,ha.eval hx,Instr.sliceAt,Instr.slice,Instr.sliceBounds,run_underlying hu,sizeOf,typeInfo,program,Sem.run,g1,g2,sliceV]
  ·simp only [Option.getD] at h0 h1 h2;simp [execOp,ha.eval hx,Instr.sliceAt,Instr.slice,Instr.sliceBounds,Instr.sliceBound,asIntOf,run_underlying hu,er,h2,show 0≤mr by omega,sizeOf,typeInfo,program,Sem.run,g1,g2,sliceV]
  ·simp only [Option.getD] at h0 h1 h2;simp [execOp,ha.eval hx,Instr.sliceAt,Instr.slice,Instr.sliceBounds,Instr.sliceBound,asIntOf,run_underlying hu,el,h0,h1,sizeOf,typeInfo,program,Sem.run,g1,g2,sliceV]
  ·simp only [Option.getD] at h0 h1 h2;simp [execOp,ha.eval hx,Instr.sliceAt,Instr.slice,Instr.sliceBounds,Instr.sliceBound,asIntOf,run_underlying hu,el,er,h0,h2,show 0≤mr by omega,sizeOf,typeInfo,program,Sem.run,g1,g2,sliceV];intro hc;exfalso;omega
theorem g_slice0 (T:Tab P) {x y:Operand} {t e:TypeId} {i:TyI} {ud:TypeDesc} {us ub:Nat} {uz:List Value} {ao:Option Addr} {len cap:Nat} {k:IntKind} {m:Int} (hx:E.ev x=some (.slice ao len cap)) (hy:E.ev y=some (.int k m)) (ht:T.get t=some i) (hi':i.desc = .slice e)
  (he:T.get e=some ⟨ud,us,ub,uz⟩) (h1:0≤m) (h2:m≤cap):Gives P n E (.slice t x none (some y) none) ty (.slice ao m.toNat cap):=by
 have hz:sliceV ao cap us 0 m.toNat = .slice ao m.toNat cap:=by
  unfold sliceV
  have h:ao.map (·.add (0*us))=ao:=by
   cases ao with
   | none=>rfl
   | some a=>simp [Addr.add]
  rw [h];split <;> simp
 rw [← hz];exact g_slice T (l:=none) (r:=some m) hx rfl (by simp [optI,hy]) ht hi' he (Int.le_refl 0) h1 h2
def eqT:TypeDesc→Value→Value→Option Bool
 | .bool,.bool a,.bool b=>some (a == b)
 | .slice _,.slice none _ _,.slice b _ _=>some b.isNone
 | .slice _,.slice (some _) _ _,.slice none _ _=>some false
 | .pointer _,.pointer none,.pointer b=>some b.isNone
 | .pointer _,.pointer (some _),.pointer none=>some false
 | .map _ _,.map none,.map b=>some b.isNone
 | .map _ _,.map (some _),.map none=>some false
 | .func _ _ _,.nilFunc,.nilFunc=>some true
 | .func _ _ _,.nilFunc,.func _ _ _=>some false
 | .func _ _ _,.func _ _ _,.nilFunc=>some false
 | .interface _,.nilIface,.iface _ _=>some false
 | .interface _,.iface _ _,.nilIface=>some false
 | _,_,_=>none
theorem equalIn_run {T:Tab P} {t:TypeId} {i:TyI} {u v:Value} {r:Bool} {w:World} (d:Nat) (ht:T.get t=some i) (h:eqT i.desc u v=some r):(Op.equalIn (d+1) t u v).run P w = .ok r w:=by
 have hu:=T.und ht;unfold eqT at h
 split at h <;> first
  | (exfalso;simp at h;done)
  | (rename_i hd;simp only [Option.some.injEq] at h;subst h
     rw [hd] at hu;unfold Op.equalIn;simp only [Sem.run_bind,run_underlying hu,Result.andThen_ok,Sem.run_pure])
theorem eqT_run {T:Tab P} {t:TypeId} {i:TyI} {x y:Operand} {u v:Value} {r:Bool} {w:World} (ht:T.get t=some i) (h:eqT i.desc u v=some r) :
  (do eqGuard .eql t x y u v;binOp .eql t u v:Sem Value).run P w = .ok (.bool r) w∧(do eqGuard .neq t x y u v;binOp .neq t u v:Sem Value).run P w = .ok (.bool !r) w:=by
 have he:(Op.equal t u v).run P w = .ok r w:=equalIn_run 9999 ht h
 have hg:∀ op,op=BinOp.eql∨op=BinOp.neq→(eqGuard op t x y u v).run P w = .ok () w:=by
  intro op hop;unfold eqT at h
  split at h <;> first
   | (exfalso;simp at h;done)
   | (rcases hop with rfl | rfl <;> simp [eqGuard])
 have h1:=hg .eql (.inl rfl);have h2:=hg .neq (.inr rfl);simp only [Sem.run_bind,h1,h2,Result.andThen_ok];unfold eqT at h
 split at h <;> first
  | (exfalso;simp at h;done)
  | (constructor <;> simp [binOp,he])
theorem g_eq (T:Tab P) {x y:Operand} {t yt:TypeId} {i:TyI} {u v:Value} {r:Bool} (hx:E.ev x=some u) (hy:E.ev y=some v) (ht:T.get t=some i) (hr:eqT i.desc u v=some r):Gives P n E (.binOp .eql t x y yt) ty (.bool r):=
 .mk <| fun _ _ _ _ act ha w=>by
  have h1:=(eqT_run (x:=x) (y:=y) (w:=w) ht hr).1;simp only [execOp,ha.eval hx,ha.eval hy,Sem.run_bind] at h1 ⊢;simp [h1]
theorem g_neq (T:Tab P) {x y:Operand} {t yt:TypeId} {i:TyI} {u v:Value} {r:Bool} (hx:E.ev x=some u) (hy:E.ev y=some v) (ht:T.get t=some i) (hr:eqT i.desc u v=some r):Gives P n E (.binOp .neq t x y yt) ty (.bool !r):=
 .mk <| fun _ _ _ _ act ha w=>by
  have h1:=(eqT_run (x:=x) (y:=y) (w:=w) ht hr).2;simp only [execOp,ha.eval hx,ha.eval hy,Sem.run_bind] at h1 ⊢;simp [h1]
end
end
end Go.Sx
namespace Go.Sx
open Go Chunk
section
set_option maxRecDepth 512
theorem addr_add (b o k:Nat):(⟨b,o,none⟩:Addr).add k=⟨b,o+k,none⟩:=by
 unfold Addr.add;split
 ·rename_i h;rw [h];rfl
 ·rfl
theorem blk_cell {w:World} {b:Nat} {cs:List Value} {t:TypeId} (h:(Chunk.blk b cs t).ok w) (o:Nat):w.cell? ⟨b,o,none⟩=cs[o]? := by
 have h':w.heap[b]? = some (.cells cs.toArray t (0,0)):=h;rw [cell_of_row w b o _ t _ h'];simp
theorem row_cell {w:World} {g cap e sz m:Nat} {xs:List Value} (h:(Chunk.row (some ⟨g,0,none⟩) cap e sz m xs).ok w) (o:Nat) (v:Value) (hv:xs[o]? = some v):w.cell? ⟨g,o,none⟩=some v:=by
 have h':w.ownsRow 0 e sz (.slice (some ⟨g,0,none⟩) m cap) m xs:=h;have:=h'.cells (g:=g) rfl o v hv
 rwa [addr_add,Nat.zero_add] at this
theorem rng_cell {w:World} {a:Addr} {cs:List Value} (h:(Chunk.rng (some a) cs).ok w) (j:Nat) (v:Value) (hv:cs[j]? = some v):w.cell? (a.add j)=some v:=by
 obtain ⟨a',ha,hc⟩:=h j v hv;cases ha;exact hc
theorem add_add (a:Addr) (j k:Nat):(a.add j).add k=a.add (j+k):=by
 unfold Addr.add;by_cases hk:k=0
 ·subst hk;simp
 ·by_cases hj:j=0
  ·subst hj;simp
  ·rw [if_neg hk,if_neg hj,if_neg (by omega)];simp [Nat.add_assoc]
theorem Sep.mem {w0 w:World} {M:Nat→Prop}:∀ {H:List Chunk},Sep w0 M w H→∀ c∈H,c.ok w
 | [],_,c,hc=>by simp at hc
 | d::H,h,c,hc=>by
  rcases List.mem_cons.1 hc with rfl | hc
  ·exact h.1
  ·exact h.2.2.2.mem c hc
theorem St.at {w0 w:World} {M:Nat→Prop} {H:List Chunk} (h:St w0 M w H) (i:Nat) {c:Chunk} (hp:H[i]? = some c):c.ok w:=h.sep.mem c (List.mem_of_getElem? hp)
def nthC:List Chunk→Nat→Option Chunk
 | [],_=>none
 | c::_,0=>some c
 | _::H,i+1=>nthC H i
theorem nthC_mem:∀ {H:List Chunk} {i:Nat} {c:Chunk},nthC H i=some c→c∈H
 | [],i,c,h=>by simp [nthC] at h
 | x::H,0,c,h=>by simp only [nthC,Option.some.injEq] at h;subst h;simp
 | x::H,i+1,c,h=>by simp only [nthC] at h;simp [nthC_mem h]
theorem St.nth {w0 w:World} {M:Nat→Prop} {H:List Chunk} (h:St w0 M w H) (i:Nat) {c:Chunk} (hp:nthC H i=some c):c.ok w:=h.sep.mem c (nthC_mem hp)
theorem find_here {c:Chunk} {H:List Chunk}:nthC (c::H) 0=some c:=rfl
theorem find_there {c d:Chunk} {H:List Chunk} {i:Nat} (h:nthC H i=some c):nthC (d::H) (i+1)=some c:=h
theorem pick_here {c:Chunk} {H:List Chunk}:Sx.pick (c::H) 0=some (c,H):=rfl
theorem pick_there {c d:Chunk} {H H':List Chunk} {i:Nat} (h:Sx.pick H i=some (c,H')):Sx.pick (d::H) (i+1)=some (c,d::H'):=by simp [Sx.pick,h]
section
variable {P:Program} {T:Tab P} {n:Cx} {Q:Exit→Act→World→Prop} {E:Env} {w w0:World} {M:Nat→Prop} {H H':List Chunk} {ops:Array Oper} {L:List Oper}
 {d:Nat} {ty:TypeId} {pos:String} {after:Array Edge}
theorem isAgg_of {T:Tab P} {t:TypeId} {i:TyI} (ht:T.get t=some i):(isAgg t).run P w = .ok (isAggD i.desc) w:=by
 have hu:=T.und ht;unfold isAgg;rw [Sem.run_bind,run_underlying hu w];cases i.desc <;> rfl
def cellsO:Value→Option (List Value)
 | .agg cs=>some cs.toList
 | .int k m=>some [.int k m]
 | .bool b=>some [.bool b]
 | .string s=>some [.string s]
 | .pointer p=>some [.pointer p]
 | .slice a l c=>some [.slice a l c]
 | .map r=>some [.map r]
 | .func f a c=>some [.func f a c]
 | .nilFunc=>some [.nilFunc]
 | .iface t v=>some [.iface t v]
 | .nilIface=>some [.nilIface]
 | _=>none
theorem cellsO_eq {v:Value} {cs:List Value} (h:cellsO v=some cs):v.cells=cs.toArray:=by
 cases v <;> simp only [cellsO,reduceCtorEq,Option.some.injEq] at h <;> subst h <;> simp [Value.cells]
theorem St.alloc {o:Obj} (hw:St w0 M w H):St w0 M (w.alloc o) (obj w.heap.size o::H):=
 hw.new (Turns.alloc _ w o) (heap_alloc_new w o) (fun k hk=>by
  have hk':k=w.heap.size:=hk;subst hk';exact ⟨Nat.le_refl _,by show w.heap.size<(w.heap.push o).size;simp⟩)
theorem St.allocC {cs:List Value} {t:TypeId} (hw:St w0 M w H):St w0 M (w.alloc (.cells cs.toArray t)) (blk w.heap.size cs t::H):=
 hw.new (Turns.alloc _ w _) (heap_alloc_new w _) (fun k hk=>by
  have hk':k=w.heap.size:=hk;subst hk';exact ⟨Nat.le_refl _,by show w.heap.size<(w.heap.push _).size;simp⟩)
theorem xl_box (hw:St w0 M w H) {x:Operand} {t:TypeId} {v:Value} {cs:List Value} (hx:E.ev x=some v) (hc:cellsO v=some cs) (hn:Nat.blt d n.m=true)
  (h:∀ b w',St w0 M w' (blk b cs t::H)→XL P ops n Q ((d,.pointer (some ⟨b,0,none⟩))::E) L w'):XL P ops n Q E (⟨some d,.box t x,ty,pos,after,none⟩::L) w:=
 xl_step_w rfl rfl hn (fun act ha=>⟨_,_,by simp [execOp,ha.eval hx,Instr.box,newVar,newRow,cellsO_eq hc],h _ _ hw.allocC⟩)
theorem xl_alloc (T:Tab P) (hw:St w0 M w H) {t:TypeId} {i:TyI} (ht:T.get t=some i) (hn:Nat.blt d n.m=true)
  (h:∀ b w',St w0 M w' (blk b i.zero t::H)→XL P ops n Q ((d,.pointer (some ⟨b,0,none⟩))::E) L w'):XL P ops n Q E (⟨some d,.alloc t,ty,pos,after,none⟩::L) w:=
 xl_step_w rfl rfl hn (fun act _=>by
  obtain ⟨ti,z,g1,g2,_,g4,g5⟩:=T.inf ht;exact ⟨_,_,by simp [execOp,Instr.alloc,zeroValue,typeInfo,program,Sem.run,g1,g4,newVar,newRow,g5],h _ _ hw.allocC⟩)
def setO:List Value→Nat→Value→Option (List Value)
 | [],_,_=>none
 | _::l,0,v=>some (v::l)
 | u::l,i+1,v=>match setO l i v with
  | some r=>some (u::r)
  | none=>none
theorem setO_eq:∀ {l:List Value} {i:Nat} {v:Value} {r:List Value},setO l i v=some r→i<l.length∧r=l.set i v
 | [],i,v,r,h=>by simp [setO] at h
 | u::l,0,v,r,h=>by simp only [setO,Option.some.injEq] at h;subst h;simp
 | u::l,i+1,v,r,h=>by
  simp only [setO] at h;cases h1:setO l i v with
  | none=>simp [h1] at h
  | some r'=>
   simp only [h1,Option.some.injEq] at h;subst h;obtain ⟨h2,h3⟩:=setO_eq h1;exact ⟨by simp;omega,by simp [h3]⟩
def setsO (l:List Value) (i:Nat):List Value→Option (List Value)
 | []=>some l
 | v::vs=>match setsO l (i+1) vs with
  | some r=>setO r i v
  | none=>none
theorem setsO_eq:∀ {vs:List Value} {l:List Value} {i:Nat} {r:List Value},setsO l i vs=some r→r.length=l.length∧(vs≠[]→i+vs.length≤l.length)∧r=l.take i++vs++l.drop (i+vs.length)
 | [],l,i,r,h=>by
  simp only [setsO,Option.some.injEq] at h;subst h;simp
 | v::vs,l,i,r,h=>by
  simp only [setsO] at h;cases h1:setsO l (i+1) vs with
  | none=>simp [h1] at h
  | some r'=>
   simp only [h1] at h;obtain ⟨h2,h3⟩:=setO_eq h;obtain ⟨g1,g2,g3⟩:=setsO_eq h1;have hil:i<l.length:=by omega
   have hlen:i+(v::vs).length≤l.length:=by
    cases vs with
    | nil=>simp;omega
    | cons x y=>have:=g2 (by simp);simp at this ⊢;omega
   refine ⟨by rw [h3];simp [g1],fun _=>hlen,?_⟩;rw [h3,g3];have e1:l.take (i+1)=l.take i++[l[i]]:=by rw [List.take_succ_eq_append_getElem hil]
   rw [e1];have el:(l.take i).length=i:=by simp;omega
   rw [List.append_assoc,List.append_assoc,List.set_append_right _ _ (by omega),el,Nat.sub_self];simp only [List.singleton_append,List.set_cons_zero,List.length_cons];rw [show i+(vs.length+1)=i+1+vs.length by omega];simp
def oneC:List Value→Bool
 | []=>true
 | v::vs=>match v with
  | .agg _ | .tuple _=>false
  | _=>oneC vs
theorem oneC_eq:∀ {vs:List Value},oneC vs=true→∀ v∈vs,v.oneCell'=true
 | [],_,v,hv=>by simp at hv
 | u::vs,h,v,hv=>by
  have h':u.oneCell'=true∧oneC vs=true:=by
   cases u <;> simp only [oneC,reduceCtorEq] at h <;> exact ⟨rfl,h⟩
  rcases List.mem_cons.1 hv with rfl | hv
  ·exact h'.1
  ·exact oneC_eq h'.2 v hv
theorem xl_store {i:Nat} (T:Tab P) (hw:St w0 M w H) {x y:Operand} {t tb:TypeId} {ti:TyI} {b o:Nat} {cs vs cs':List Value} {v:Value} (hx:E.ev x=some (.pointer (some ⟨b,o,none⟩))) (hp:Sx.pick H i=some (blk b cs tb,H')) (hy:E.ev y=some v) (hv:cellsO v=some vs) (h1:oneC vs=true)
  (hs:setsO cs o vs=some cs') (ht:T.get t=some ti) (hz:Nat.beq vs.length ti.size=true) (hne:vs≠[])
  (h:∀ w',St w0 M w' (blk b cs' tb::H')→XL P ops n Q E L w'):XL P ops n Q E (⟨none,.store t x y,ty,pos,after,none⟩::L) w:=
 xl_step_u rfl rfl (fun act ha=>by
  obtain ⟨tinf,z,g1,g2,_,_,_⟩:=T.inf ht;have hw':=hw.pick i hp;have hb:w.heap[b]? = some (.cells cs.toArray tb (0,0)):=hw'.head;have hz':vs.length=tinf.size:=by rw [g2];exact Nat.eq_of_beq_eq_true hz
  obtain ⟨k1,k2,k3⟩:=setsO_eq hs;have hst:=run_storeCells_at P b o tb vs 0 cs.toArray w hb (by simp;have:=k2 hne;omega) (oneC_eq h1);have hc:=cellsO_eq hv;refine ⟨w.setRow b cs'.toArray,?_,h _ (hw'.turn rfl (Turns.setRow w b _) ?_ (fun k hk=>.inl hk))⟩
  ·simp only [execOp,ha.eval hx,ha.eval hy,Instr.storeAt,Instr.sureAddr,Sem.run_bind,Sem.run_pure,Result.andThen_ok,storeVar,sizeOf,typeInfo,program,Sem.run,g1,hc];rw [if_neg (by simp [hz'])];simp only [Nat.add_zero] at hst;rw [hst];simp only [Result.andThen_ok];rw [k3]
  ·exact setRow_heap w b cs.toArray _ tb _ hb)
end
theorem setsO_one {l:List Value} {i:Nat} {v:Value} (h:i<l.length):setsO l i [v]=some (l.set i v):=by
 simp only [setsO]
 induction l generalizing i with
 | nil=>simp at h
 | cons u l ih=>
  cases i with
  | zero=>simp [setO]
  | succ i=>simp only [setO];rw [ih (by simpa using h)];simp
end
section
set_option maxRecDepth 512
theorem blt_lt {a b:Nat} (h:Nat.blt a b=true):a<b:=by simpa [Nat.blt_eq] using h
def placeF {P:Program} (T:Tab P) (fields:List Field) (i:Nat):Option (Nat×Nat):=
 match fields[i]? with
 | some f=>match T.get f.type with
  | some ti=>some (f.offset,ti.size)
  | none=>none
 | none=>none
def placeS (sz:Nat) (i:Nat):Option (Nat×Nat):=some (i*sz,sz)
def fillL (place:Nat→Option (Nat×Nat)):List Value→List (Nat×Value)→Option (List Value)
 | cs,[]=>some cs
 | cs,(i,v)::r=>match place i,cellsO v with
  | some (off,size),some vs=>if Nat.beq vs.length size && Nat.blt 0 size then (match setsO cs off vs with
   | some cs'=>fillL place cs' r
   | none=>none) else none
  | _,_=>none
theorem foldl_sets (vs:List Value):∀ (k off:Nat) (cs:List Value),off+k+vs.length≤cs.length →
  ((vs.zipIdx k).foldl (fun (c:Array Value) (x:Value×Nat)=>c.setIfInBounds (off+x.2) x.1) cs.toArray)=(cs.take (off+k)++vs++cs.drop (off+k+vs.length)).toArray:=by
 induction vs with
 | nil=>intro k off cs _;simp
 | cons v vs ih=>
  intro k off cs hlen;simp only [List.length_cons] at hlen;simp only [List.zipIdx_cons,List.foldl_cons,List.setIfInBounds_toArray];rw [ih (k+1) off (cs.set (off+k) v) (by simp;omega)]
  congr 1
  have hlt:off+k<cs.length:=by omega
  rw [show off+(k+1)=(off+k)+1 by omega]
  have e1:(cs.set (off+k) v).take (off+k+1)=cs.take (off+k)++[v]:=by
   rw [List.take_succ_eq_append_getElem (by simpa using hlt)];simp [List.take_set_of_le]
  have e2:(cs.set (off+k) v).drop (off+k+1+vs.length)=cs.drop (off+k+1+vs.length):=by
   rw [List.drop_set_of_lt (by omega)]
  rw [e1,e2];simp only [List.append_assoc,List.singleton_append,List.length_cons];rw [show off+k+1+vs.length=off+k+(vs.length+1) by omega]
theorem fillL_eq {place place':Nat→Option (Nat×Nat)} (hpl:∀ i r,place i=some r→place' i=some r):∀ {parts:List (Nat×Value)} {cs r:List Value},fillL place cs parts=some r→Instr.fill place' cs.toArray parts=some r.toArray
 | [],cs,r,h=>by simp only [fillL,Option.some.injEq] at h;subst h;rfl
 | (i,v)::rest,cs,r,h=>by
  simp only [fillL] at h;split at h
  ·rename_i off size vs hp hc;split at h
   ·rename_i hsz;cases hs:setsO cs off vs with
    | none=>simp [hs] at h
    | some cs'=>
     simp only [hs] at h;have ih:=fillL_eq hpl h;have hcell:=cellsO_eq hc;have hl:vs.length=size:=Nat.eq_of_beq_eq_true (Bool.and_eq_true_iff.1 hsz).1;obtain ⟨k1,k2,k3⟩:=setsO_eq hs;unfold Instr.fill;rw [hpl i _ hp];simp only [hcell]
     have hne:vs≠[]:=by
      intro hv;subst hv;simp at hsz;omega
     have hb:=k2 hne;rw [if_neg (by simp [hl];omega)];have:=foldl_sets vs 0 off cs (by omega);simp only [Nat.add_zero] at this;rw [← Array.foldl_toList,Array.toList_zipIdx,this,← k3];exact ih
   ·cases h
  ·cases h
def catO:List Value→List Value→Option (List Value)
 | [],r=>some r
 | v::l,r=>match catO l r with
  | some t=>some (v::t)
  | none=>none
theorem catO_eq:∀ {l r t:List Value},catO l r=some t→t=l++r
 | [],r,t,h=>by simp only [catO,Option.some.injEq] at h;simp [h]
 | v::l,r,t,h=>by
  simp only [catO] at h;cases h1:catO l r with
  | none=>simp [h1] at h
  | some t'=>simp only [h1,Option.some.injEq] at h;subst h;simp [catO_eq h1]
def repL:Nat→List Value→Option (List Value)
 | 0,_=>some []
 | k+1,z=>match repL k z with
  | some r=>catO z r
  | none=>none
def zerosL (len:Nat) (z:List Value):Option (List Value):=repL len z
theorem zerosL_eq {len:Nat} {z zs:List Value} (h:zerosL len z=some zs):(List.range (len*z.length)).map (z.toArray[· % z.toArray.size]!)=zs:=by
 unfold zerosL at h
 induction len generalizing zs with
 | zero=>simp only [repL,Option.some.injEq] at h;subst h;simp
 | succ k ih=>
  simp only [repL] at h;cases h1:repL k z with
  | none=>simp [h1] at h
  | some r=>
   simp only [h1] at h;have:=catO_eq h;subst this;rw [← ih h1,Nat.succ_mul,Nat.add_comm,List.range_add,List.map_append]
   congr 1
   ·apply List.ext_getElem?;intro j;by_cases hj:j<z.length
    ·simp [hj,Nat.mod_eq_of_lt hj]
    ·simp [hj,List.getElem?_eq_none (Nat.le_of_not_lt hj)]
   ·rw [List.map_map];apply List.map_congr_left;intro j _;simp
section
variable {P:Program} {T:Tab P} {n:Cx} {Q:Exit→Act→World→Prop} {E:Env} {w w0:World} {M:Nat→Prop} {H H':List Chunk} {ops:Array Oper} {L:List Oper}
 {d:Nat} {ty:TypeId} {pos:String} {after:Array Edge}
theorem run_places {T:Tab P}:∀ (fields:List Field),(∀ f∈fields,(T.get f.type).isSome=true) →
  (fields.mapM (fun f=>do pure (f.offset,← sizeOf f.type):Field→Sem (Nat×Nat))).run P w = .ok (fields.map fun f=>(f.offset,((T.get f.type).map (·.size)).getD 0)) w
 | [],_=>by simp
 | f::fs,h=>by
  obtain ⟨ti,hti⟩:=Option.isSome_iff_exists.1 (h f (by simp));obtain ⟨i,z,g1,g2,_,_,_⟩:=T.inf hti;have ih:=run_places (T:=T) fs (fun x hx=>h x (by simp [hx]));simp only [List.mapM_cons,Sem.run_bind,sizeOf,typeInfo,program,Sem.run,g1,Sem.run_pure,Result.andThen_ok] at ih ⊢;rw [ih];simp [hti,g2]
def fieldsOk {P:Program} (T:Tab P):List Field→Bool
 | []=>true
 | f::fs=>match T.get f.type with
  | some _=>fieldsOk T fs
  | none=>false
theorem fieldsOk_eq {T:Tab P}:∀ {fields:List Field},fieldsOk T fields=true→∀ f∈fields,(T.get f.type).isSome=true
 | [],_,f,hf=>by simp at hf
 | g::fs,h,f,hf=>by
  simp only [fieldsOk] at h;split at h
  ·rename_i i hi;rcases List.mem_cons.1 hf with rfl | hf
   ·simp [hi]
   ·exact fieldsOk_eq h f hf
  ·cases h
theorem g_build (T:Tab P) {t:TypeId} {i:TyI} {fields:Array Field} {parts:Array (Nat×Operand)} {vs:List (Nat×Value)} {cs:List Value} (ht:T.get t=some i) (hi:i.desc = .struct fields) (hf:fieldsOk T fields.toList=true)
  (hp:E.evps parts.toList=some vs) (hc:fillL (placeF T fields.toList) i.zero vs=some cs):Gives P n E (.build t parts) ty (.agg cs.toArray):=
 .mk <| fun dst pos after g act ha w=>by
  obtain ⟨ti,z,g1,g2,_,g4,g5⟩:=T.inf ht;have hu:=T.und ht;rw [hi] at hu;have hpl:=run_places (T:=T) (w:=w) fields.toList (fieldsOk_eq hf)
  have hfill:=fillL_eq (place':=fun j=>((fields.toList.map fun f=>(f.offset,((T.get f.type).map (·.size)).getD 0)).toArray)[j]?) (fun j r hj=>by
   unfold placeF at hj;split at hj
   ·rename_i f hfj;split at hj
    ·rename_i ti' hti;cases hj;have hfj':fields[j]? = some f:=by simpa using hfj
     simp [hfj',hti]
    ·cases hj
   ·cases hj) hc
  have hparts:(parts.map fun (x:Nat×Operand)=>(x.1,act.eval x.2)).toList=vs:=by
   rw [Array.toList_map];exact ha.evalps hp
  simp only [execOp,Instr.build,Sem.run_bind,zeroValue,typeInfo,program,Sem.run,g1,g4,Sem.run_pure,Result.andThen_ok,run_underlying hu];rw [Array.mapM_eq_mapM_toList,Sem.run_map,hpl];simp only [Result.andThen_ok,hparts,g5];rw [hfill];rfl
theorem xl_buildSlice (T:Tab P) (hw:St w0 M w H) {t e:TypeId} {i ie:TyI} {len:Nat} {parts:Array (Nat×Operand)} {vs:List (Nat×Value)} {zs cs:List Value} (ht:T.get t=some i) (hi:i.desc = .slice e) (he:T.get e=some ie)
  (hp:E.evps parts.toList=some vs) (hz:zerosL len ie.zero=some zs) (hc:fillL (placeS ie.size) zs vs=some cs) (hsm:Nat.ble (len*ie.size) 16777216=true) (hpos:Nat.blt 0 (len*ie.size)=true) (hze:Nat.beq ie.zero.length ie.size=true) (hn:Nat.blt d n.m=true)
  (h:∀ b w',St w0 M w' (blk b cs e::H)→XL P ops n Q ((d,.slice (some ⟨b,0,none⟩) len len)::E) L w'):XL P ops n Q E (⟨some d,.buildSlice t len parts,ty,pos,after,none⟩::L) w:=
 xl_step_w rfl rfl hn (fun act ha=>by
  obtain ⟨ti,z,g1,g2,_,g4,g5⟩:=T.inf he;have hu:=T.und ht;rw [hi] at hu
  have hparts:(parts.map fun (x:Nat×Operand)=>(x.1,act.eval x.2)).toList=vs:=by
   rw [Array.toList_map];exact ha.evalps hp
  have hpl:∀ j r,placeS ie.size j=some r→(fun i=>some (i*ti.size,ti.size)) j=some r:=fun j r hj=>by
   rw [g2];exact hj
  have hfill:=fillL_eq hpl hc
  have hzz:((Array.range (len*ti.size)).map (z.cells[· % z.cells.size]!))=zs.toArray:=by
   rw [g2,g5];have hl:ie.zero.length=ie.size:=Nat.eq_of_beq_eq_true hze;rw [← hl];apply Array.ext';rw [Array.toList_map,Array.toList_range];exact zerosL_eq hz
  have hrun:=run_buildSlice w t e len (parts.map fun (x:Nat×Operand)=>(x.1,act.eval x.2)) cs.toArray ti z hu g1 g4 (by rw [g2];have:=Nat.le_of_ble_eq_true hsm;omega) (by rw [g2];have:=blt_lt hpos;omega) (by
   rw [hzz,hparts];exact hfill)
  refine ⟨_,_,?_,h w.heap.size _ hw.allocC⟩;simp only [execOp,Sem.run_bind,hrun,Result.andThen_ok,Sem.run_pure])
theorem St.row_nil (hw:St w0 M w H) (e:TypeId) (sz:Nat):St w0 M w (row none 0 e sz 0 []::H):=
 hw.new (Turns.refl _ w) (World.ownsRow_nil w 0 e sz) (fun k hk=>by
  have hk':(Value.slice none 0 0).ownBlock=some k:=hk;simp [Value.ownBlock] at hk')
theorem St.row_of_blk {b e sz m:Nat} {cs:List Value} (hw:St w0 M w (blk b cs e::H)) (hl:cs.length=m*sz) (hm:m≤maxLen):St w0 M w (row (some ⟨b,0,none⟩) m e sz m cs::H):=by
 have hb:w.heap[b]? = some (.cells cs.toArray e (0,0)):=hw.head;refine hw.turn rfl (Turns.refl _ w) ?_ (fun k hk=>.inl ?_)
 ·exact ⟨hl,.inr ⟨b,m,cs.toArray,rfl,Nat.zero_le _,hb,Nat.le_refl _,hm,by simp [hl],by simp [← hl]⟩⟩
 ·have hk':(Value.slice (some ⟨b,0,none⟩) m m).ownBlock=some k:=hk;simp [Value.ownBlock] at hk';exact hk'.symm
theorem xl_append_cells {i:Nat} (T:Tab P) (hw:St w0 M w H) {s x:Operand} {t e:TypeId} {ti:TyI} {ud:TypeDesc} {us ub:Nat} {uz:List Value} {ao:Option Addr} {len cap sz:Nat} {xs:List Value} {ad:Addr} {m c:Nat} {news:List Value}
  (hs:E.ev s=some (.slice ao len cap)) (hp:Sx.pick H i=some (row ao cap e sz len xs,H')) (hx:E.ev x=some (.slice (some ad) m c)) (ht:T.get t=some ti) (hti:ti.desc = .slice e) (he:T.get e=some ⟨ud,us,ub,uz⟩) (hsz:Nat.beq us sz=true) (hpos:Nat.blt 0 sz=true) (hzl:Nat.beq uz.length sz=true)
  (hn:Nat.blt d n.m=true) (hl:news.length=m*sz) (hnews:∀ j u,news[j]? = some u→w.cell? (ad.add j)=some u) (h1:∀ u∈news,u.oneCell'=true)
  (hbytes:(len+m)*ub≤140737488355328) (hmax:len+m≤maxLen)
  (h:∀ ao' cap' w',St w0 M w' (row ao' cap' e sz (len+m) (xs++news)::H')→len+m≤cap'→(m≠0∨len≠0→∃ g,ao'=some ⟨g,0,none⟩)→XL P ops n Q ((d,.slice ao' (len+m) cap')::E) L w') :
  XL P ops n Q E (⟨some d,.call { callee:=.builtin .append,args:=#[s,x],argTypes:=#[t,t] },ty,pos,after,none⟩::L) w:=
 xl_step_w rfl rfl hn (fun act ha=>by
  obtain ⟨tinf,z,g1,g2,g3,g4,g5⟩:=T.inf he;have hu:=T.und ht;rw [hti] at hu;have hw':=hw.pick i hp;have hown:w.ownsRow 0 e sz (.slice ao len cap) len xs:=hw'.head;have hsz':us=sz:=Nat.eq_of_beq_eq_true hsz;obtain ⟨v',w',hr,h2,h3,h4⟩:=run_append_own (P:=P) w 0 t ty e tinf z sz tinf.bytes hu g1 g4 (by rw [g2,hsz']) rfl (by rw [g5];simpa using Nat.eq_of_beq_eq_true hzl) (blt_lt hpos) _ len xs hown ad m c news hl hnews h1 hmax (by rw [g3];exact hbytes) (Nat.zero_le _)
  have hform:∃ ao' cap',v' = .slice ao' (len+m) cap'∧len+m≤cap'∧(m≠0∨len≠0→∃ g,ao'=some ⟨g,0,none⟩):=by
   rcases h2.2 with ⟨hv,hz⟩ | ⟨g,c',cur,hv,_,_,hle,_⟩
   ·refine ⟨none,0,by rw [hv,hz],by omega,fun hh=>?_⟩;omega
   ·exact ⟨some ⟨g,0,none⟩,c',hv,hle,fun _=>⟨g,rfl⟩⟩
  obtain ⟨ao',cap',rfl,hcap,hsome⟩:=hform;refine ⟨_,w',?_,h ao' cap' w' (hw'.turn rfl ((Turns.grown h3).mono (fun k hk=>hk)) h2 ?_) hcap hsome⟩
  ·simp only [execOp,resolve,invoke,builtin,Sem.run_bind,Sem.run_pure,Result.andThen_ok,List.map_toArray,List.map_cons,List.map_nil,ha.eval hs,ha.eval hx,hr]
  ·intro k hk;have hk':(Value.slice ao' (len+m) cap').ownBlock=some k:=hk;by_cases ho:(Value.slice ao len cap).ownBlock=some k
   ·exact .inl ho
   ·right;have hlt:=(h2.lt k hk').2;refine ⟨?_,hlt⟩;have hsize:tinf.size=sz:=by rw [g2,hsz']
    have hzs:z.cells.size=sz:=by rw [g5];simpa using Nat.eq_of_beq_eq_true hzl
    rcases hown.2 with ⟨hv0,hl0⟩ | ⟨g,c0,cur,hv0,_,hg,hle,hcm,hcs,htake⟩
    ·
     have hown':w.ownsRow w.heap.size e sz (.slice ao len cap) len xs:=⟨hown.1,.inl ⟨hv0,hl0⟩⟩
     obtain ⟨v2,w2,hr2,k2,_,_⟩:=run_append_own (P:=P) w w.heap.size t ty e tinf z sz tinf.bytes hu g1 g4 hsize rfl hzs (blt_lt hpos) _ len xs hown' ad m c news hl hnews h1 hmax (by rw [g3];exact hbytes) (Nat.le_refl _);rw [hr] at hr2;cases hr2;exact (k2.lt k hk').1
    ·simp only [Value.slice.injEq] at hv0;obtain ⟨rfl,_,rfl⟩:=hv0;by_cases hroom:len+m≤cap
     ·have hfit:len*tinf.size+news.length≤cur.size:=by rw [hl,hcs,hsize,← Nat.add_mul];exact Nat.mul_le_mul_right _ hroom
      have hr2:=run_append_room (P:=P) w t ty e tinf hu g1 g len cap cur hg ad m c news (by rw [hl,hsize]) hnews h1 hroom hfit;rw [hr] at hr2;simp only [Result.ok.injEq,Value.slice.injEq] at hr2;obtain ⟨⟨ha',_,_⟩,_⟩:=hr2;subst ha';exact absurd hk' (by simpa [Value.ownBlock] using ho)
     ·have holds:∀ j u,xs[j]? = some u→w.cell? ((⟨g,0,none⟩:Addr).add j)=some u:=hown.cells (g:=g) rfl;have hmax':len+m≤9223372036854775807:=by simp only [maxLen] at hmax;omega
      have hr2:=run_append_grow (P:=P) w t ty e tinf z hu g1 g4 ⟨g,0,none⟩ len cap xs (by rw [hown.1,hsize]) holds ad m c news (by rw [hl,hsize]) hnews (by omega) (by omega) (growslice_fits (by omega) (by rw [g3];exact hbytes));rw [hr] at hr2;simp only [Result.ok.injEq,Value.slice.injEq] at hr2;obtain ⟨⟨ha',_,_⟩,_⟩:=hr2;subst ha';simp only [Value.ownBlock,Option.some.injEq] at hk';omega)
theorem xl_append {i j:Nat} (T:Tab P) (hw:St w0 M w H) {s x:Operand} {t e eb:TypeId} {ti:TyI} {ud:TypeDesc} {us ub:Nat} {uz:List Value} {ao:Option Addr} {len cap sz:Nat} {xs:List Value} {b m c:Nat} {news:List Value} {H'':List Chunk}
  (hs:E.ev s=some (.slice ao len cap)) (hx:E.ev x=some (.slice (some ⟨b,0,none⟩) m c)) (hpb:Sx.pick H j=some (blk b news eb,H'')) (hp:Sx.pick H'' i=some (row ao cap e sz len xs,H')) (ht:T.get t=some ti) (hti:ti.desc = .slice e) (he:T.get e=some ⟨ud,us,ub,uz⟩) (hsz:Nat.beq us sz=true) (hpos:Nat.blt 0 sz=true) (hzl:Nat.beq uz.length sz=true)
  (hn:Nat.blt d n.m=true) (hl:Nat.beq news.length (m*sz)=true) (h1:oneC news=true)
  (hbytes:(len+m)*ub≤140737488355328) (hmax:len+m≤maxLen)
  (h:∀ ao' cap' w',St w0 M w' (row ao' cap' e sz (len+m) (xs++news)::H')→len+m≤cap'→(m≠0∨len≠0→∃ g,ao'=some ⟨g,0,none⟩)→XL P ops n Q ((d,.slice ao' (len+m) cap')::E) L w') :
  XL P ops n Q E (⟨some d,.call { callee:=.builtin .append,args:=#[s,x],argTypes:=#[t,t] },ty,pos,after,none⟩::L) w:=
 xl_append_cells T (hw.pick j hpb).drop hs hp hx ht hti he hsz hpos hzl hn (Nat.eq_of_beq_eq_true hl) (fun k u hk=>by
  rw [addr_add,Nat.zero_add,blk_cell (hw.pick j hpb).head,hk]) (oneC_eq h1) hbytes hmax h
theorem St.row_shrink {ao:Option Addr} {cap e sz len m:Nat} {xs:List Value} (hw:St w0 M w (row ao cap e sz len xs::H)) (hm:m≤len):St w0 M w (row ao cap e sz m (xs.take (m*sz))::H):=by
 have hok:w.ownsRow 0 e sz (.slice ao len cap) len xs:=hw.head;refine hw.turn rfl (Turns.refl _ w) ?_ (fun k hk=>.inl (by cases ao <;> exact hk));obtain ⟨h1,h2⟩:=hok;have hle:m*sz≤len*sz:=Nat.mul_le_mul_right _ hm;refine ⟨by rw [List.length_take,h1,Nat.min_eq_left hle],?_⟩;rcases h2 with ⟨hv,hz⟩ | ⟨g,c,cur,hv,hb,hg,hn,hc,hs,ht⟩
 ·subst hz;have hm0:m=0:=by omega
  subst hm0;exact .inl ⟨hv,rfl⟩
 ·simp only [Value.slice.injEq] at hv;obtain ⟨rfl,_,rfl⟩:=hv;refine .inr ⟨g,cap,cur,rfl,hb,hg,by omega,hc,hs,?_⟩;rw [← ht,List.take_take,Nat.min_eq_left hle]
theorem St.row_some {ao:Option Addr} {cap e sz len:Nat} {xs:List Value} (hw:St w0 M w (row ao cap e sz len xs::H)) (hl:0<len):∃ g,ao=some ⟨g,0,none⟩:=by
 have hok:w.ownsRow 0 e sz (.slice ao len cap) len xs:=hw.head;rcases hok.2 with ⟨_,hz⟩ | ⟨g,_,_,hv,_⟩
 ·omega
 ·simp only [Value.slice.injEq] at hv;exact ⟨g,hv.1⟩
theorem St.rng_some {ao:Option Addr} {cs:List Value} (hw:St w0 M w (rng ao cs::H)) (hl:0<cs.length):∃ a,ao=some a:=by
 have hok:(rng ao cs).ok w:=hw.head;obtain ⟨a,ha,_⟩:=hok 0 cs[0] (by simp [hl]);exact ⟨a,ha⟩
theorem St.row_cap {ao:Option Addr} {cap e sz len:Nat} {xs:List Value} (hw:St w0 M w (row ao cap e sz len xs::H)):len≤cap:=by
 have hok:w.ownsRow 0 e sz (.slice ao len cap) len xs:=hw.head;rcases hok.2 with ⟨_,hz⟩ | ⟨g,c',cur,hv,_,_,hle,_⟩
 ·omega
 ·simp only [Value.slice.injEq] at hv;obtain ⟨_,_,rfl⟩:=hv;exact hle
theorem xl_append_row {i j:Nat} (T:Tab P) (hw:St w0 M w H) {s x:Operand} {t e e2:TypeId} {ti:TyI} {ud:TypeDesc} {us ub:Nat} {uz:List Value} {ao asr:Option Addr} {len cap sz m c c2 n2:Nat} {xs xs2:List Value}
  (hs:E.ev s=some (.slice ao len cap)) (hx:E.ev x=some (.slice asr m c)) (hp:Sx.pick H i=some (row ao cap e sz len xs,H')) (hp2:nthC H' j=some (row asr c2 e2 sz n2 xs2)) (ht:T.get t=some ti) (hti:ti.desc = .slice e) (he:T.get e=some ⟨ud,us,ub,uz⟩) (hsz:Nat.beq us sz=true) (hpos:Nat.blt 0 sz=true) (hzl:Nat.beq uz.length sz=true)
  (hn:Nat.blt d n.m=true) (hm:m≤n2) (h1:∀ u∈xs2,u.oneCell'=true)
  (hbytes:(len+m)*ub≤140737488355328) (hmax:len+m≤maxLen)
  (h:∀ ao' cap' w',St w0 M w' (row ao' cap' e sz (len+m) (xs++xs2.take (m*sz))::H')→len+m≤cap'→XL P ops n Q ((d,.slice ao' (len+m) cap')::E) L w') :
  XL P ops n Q E (⟨some d,.call { callee:=.builtin .append,args:=#[s,x],argTypes:=#[t,t] },ty,pos,after,none⟩::L) w:=by
 have hw2:=hw.pick i hp;have hsrc:w.ownsRow 0 e2 sz (.slice asr n2 c2) n2 xs2:=hw2.sep.2.2.2.mem _ (nthC_mem hp2);have hdst:w.ownsRow 0 e sz (.slice ao len cap) len xs:=hw2.head;cases asr with
 | none=>
  have hn2:n2=0:=by
   rcases hsrc.2 with ⟨_,hz⟩ | ⟨g,_,_,hv,_⟩
   ·exact hz
   ·simp at hv
  subst hn2;obtain rfl:m=0:=by omega
  have hlen:len≤cap:=by
   rcases hdst.2 with ⟨hv,hz⟩ | ⟨g,c',cur,hv,_,_,hle,_⟩
   ·omega
   ·simp only [Value.slice.injEq] at hv;obtain ⟨_,_,rfl⟩:=hv;exact hle
  refine xl_step rfl rfl hn (v:=.slice ao len cap) (fun act ha=>?_) ?_
  ·obtain ⟨tinf,z,g1,g2,g3,g4,g5⟩:=T.inf he;have hu:=T.und ht;rw [hti] at hu;simp only [execOp,resolve,invoke,builtin,Sem.run_bind,Sem.run_pure,Result.andThen_ok,List.map_toArray,List.map_cons,List.map_nil,ha.eval hs,ha.eval hx];cases ao <;> simp [Builtin.append_,run_underlying hu,sizeOf,typeInfo,program,Sem.run,g1,Builtin.lenOf,hlen,Builtin.firstCells,storeCells]
  ·have:=h ao cap w (by simpa using hw2) (by simpa using hlen)
   simpa using this
 | some a=>
  obtain ⟨g,rfl⟩:∃ g,a=⟨g,0,none⟩:=by
   rcases hsrc.2 with ⟨hv,_⟩ | ⟨g,_,_,hv,_⟩
   ·simp at hv
   ·simp only [Value.slice.injEq,Option.some.injEq] at hv;exact ⟨g,hv.1⟩
  have hle:m*sz≤n2*sz:=Nat.mul_le_mul_right _ hm;refine xl_append_cells T hw hs hp hx ht hti he hsz hpos hzl hn (by rw [List.length_take,hsrc.1];omega) (fun k u hk=>?_) (fun u hu=>h1 u (List.mem_of_mem_take hu)) hbytes hmax (fun ao' cap' w' hw' hc _=>h ao' cap' w' hw' hc);rw [addr_add,Nat.zero_add];rw [List.getElem?_take] at hk;split at hk
  ·exact row_cell (cap:=c2) (e:=e2) (sz:=sz) (m:=n2) (xs:=xs2) hsrc k u hk
  ·cases hk
def ownsW:List Chunk→Nat→Prop
 | [],_=>False
 | c::H,k=>(c.wr=true∧c.own k)∨ownsW H k
def Ret {α:Type} (w:World) (Hf:List Chunk) (val:α→Value) (out:α→List Chunk) (Φ:α→Prop):Ending→World→Prop:=
 fun e w'=>∃ x,e = .returned (val x)∧St w (ownsW Hf) w' (out x)∧Φ x
def Called (P:Program) (f:FuncId):Prop:=∃ fn c,P.funcs[f]? = some fn∧fn.body=some c∧(fn.name == "runtime.NumGoroutine")=false
structure FnC {α:Type} (P:Program) (f:FuncId) (args:List Value) (A B:List Chunk) (val:α→Value) (out:α→List Chunk) (Φ:α→Prop):Prop where
 called:Called P f
 run:∀ w,St w (ownsW A) w (A++B)→Calls P f args.toArray w (Ret w A val out Φ)
def picks:List Nat→List Chunk→Option (List Chunk×List Chunk)
 | [],H=>some ([],H)
 | i::is,H=>match Sx.pick H i with
  | some (c,H')=>(match picks is H' with
   | some (cs,R)=>some (c::cs,R)
   | none=>none)
  | none=>none
theorem Sep.append {w0 w:World} {M:Nat→Prop}:∀ {A B:List Chunk},Sep w0 M w (A++B)↔Sep w0 M w A∧Sep w0 M w B∧∀ c∈A,∀ d∈B,c.Apart d
 | [],B=>by simp [Sep]
 | c::A,B=>by
  have ih:=Sep.append (w0:=w0) (w:=w) (M:=M) (A:=A) (B:=B);simp only [List.cons_append,Sep];constructor
  ·rintro ⟨h1,h2,h3,h4⟩;obtain ⟨i1,i2,i3⟩:=ih.1 h4;refine ⟨⟨h1,h2,fun d hd=>h3 d (by simp [hd]),i1⟩,i2,fun x hx d hd=>?_⟩;rcases List.mem_cons.1 hx with rfl | hx
   ·exact h3 d (by simp [hd])
   ·exact i3 x hx d hd
  ·rintro ⟨⟨h1,h2,h3,h4⟩,i2,i3⟩;refine ⟨h1,h2,fun d hd=>?_,ih.2 ⟨h4,i2,fun x hx=>i3 x (by simp [hx])⟩⟩;rcases List.mem_append.1 hd with hd | hd
   ·exact h3 d hd
   ·exact i3 c (by simp) d hd
theorem picks_mem:∀ {is:List Nat} {H cs R:List Chunk},picks is H=some (cs,R)→∀ x∈cs++R,x∈H
 | [],H,cs,R,h,x,hx=>by simp only [picks,Option.some.injEq,Prod.mk.injEq] at h;obtain ⟨rfl,rfl⟩:=h;simpa using hx
 | i::is,H,cs,R,h,x,hx=>by
  simp only [picks] at h;split at h
  ·rename_i c H' hp;split at h
   ·rename_i cs' R' hps;cases h;obtain ⟨m1,m2⟩:=pick_mem hp;simp only [List.cons_append,List.mem_cons] at hx;rcases hx with rfl | hx
    ·exact m1
    ·exact m2 x (picks_mem hps x hx)
   ·cases h
  ·cases h
theorem picks_sep {w0 w:World} {M:Nat→Prop}:∀ {is:List Nat} {H cs R:List Chunk},picks is H=some (cs,R)→Sep w0 M w H→Sep w0 M w (cs++R)
 | [],H,cs,R,h,hs=>by simp only [picks,Option.some.injEq,Prod.mk.injEq] at h;obtain ⟨rfl,rfl⟩:=h;exact hs
 | i::is,H,cs,R,h,hs=>by
  simp only [picks] at h;split at h
  ·rename_i c H' hp;split at h
   ·rename_i cs' R' hps;cases h;obtain ⟨g1,g2,g3,g4⟩:=hs.pick hp;have ih:=picks_sep hps g4;refine ⟨g1,g2,fun d hd=>?_,ih⟩
    have hmem:∀ x,x∈cs'++R→x∈H':=by
     intro x hx;exact picks_mem hps x hx
    exact g3 d (hmem d hd)
   ·cases h
  ·cases h
theorem St.sub {w0 w:World} {M:Nat→Prop} {H A R:List Chunk} (h:St w0 M w H) (is:List Nat) (hp:picks is H=some (A,R)):St w0 M w A:=
 ⟨h.base,(Sep.append.1 (picks_sep hp h.sep)).1⟩
theorem ownsW_mem:∀ {H:List Chunk} {k:Nat},ownsW H k↔∃ c∈H,c.wr=true∧c.own k
 | [],k=>by simp [ownsW]
 | c::H,k=>by simp [ownsW,ownsW_mem (H:=H) (k:=k)]
theorem Sep.local {w0 w:World} {M:Nat→Prop}:∀ {A:List Chunk} (N:Nat→Prop),Sep w0 M w A→(∀ c∈A,c.wr=true→∀ k,c.own k→N k)→Sep w N w A
 | [],_,_,_=>trivial
 | c::A,N,h,hN=>by
  obtain ⟨h1,h2,h3,h4⟩:=h;exact ⟨h1,fun k hk=>⟨(h2 k hk).1,fun hw=>.inl (hN c (by simp) hw k hk)⟩,h3,Sep.local N h4 (fun d hd=>hN d (by simp [hd]))⟩
theorem Sep.back {w0 w w':World} {M N:Nat→Prop} (hb:w0.heap.size≤w.heap.size) (hN:∀ k,N k→M k∨w0.heap.size≤k):∀ {A:List Chunk},Sep w N w' A→Sep w0 M w' A
 | [],_=>trivial
 | c::A,h=>by
  obtain ⟨h1,h2,h3,h4⟩:=h;refine ⟨h1,fun k hk=>⟨(h2 k hk).1,fun hw=>?_⟩,h3,h4.back hb hN⟩;rcases (h2 k hk).2 hw with h5 | h5
  ·exact hN k h5
  ·exact .inr (Nat.le_trans hb h5)
theorem St.call {w0 w w':World} {M:Nat→Prop} {A A' R:List Chunk} (h:Sep w0 M w (A++R)) (hbase:Base w0 M w) (h':St w (ownsW A) w' A') (hro:∀ c∈A',c.wr=false→∀ k,c.own k→(∃ a∈A,a.wr=false∧a.own k)∨w.heap.size≤k):St w0 M w' (A'++R):=by
 obtain ⟨hA,hR,hAR⟩:=Sep.append.1 h;obtain ⟨hb',hA'⟩:=h'
 have hM:∀ k,ownsW A k→M k∨w0.heap.size≤k:=by
  intro k hk;obtain ⟨c,hc,hw,ho⟩:=ownsW_mem.1 hk
  have:∀ {A:List Chunk},Sep w0 M w A→c∈A→M k∨w0.heap.size≤k:=by
   intro A
   induction A with
   | nil=>intro _ hc;simp at hc
   | cons x A ih=>
    intro hs hc;rcases List.mem_cons.1 hc with rfl | hc
    ·exact (hs.2.1 k ho).2 hw
    ·exact ih hs.2.2.2 hc
  exact this hA hc
 have hturn:Turns (ownsW A) w w':=⟨hb'.os,hb'.tape,hb'.output,hb'.size,hb'.old⟩
 refine ⟨hbase.turns hturn hM,Sep.append.2 ⟨hA'.back hbase.size hM,hR.keep hturn (fun d hd k hk hdk=>?_),fun c hc d hd hw k hck hdk=>?_⟩⟩
 ·obtain ⟨x,hx,hxw,hxo⟩:=ownsW_mem.1 hk;exact hAR x hx d hd (.inl hxw) k hxo hdk
 ·have hdlt:=hR.dom d hd k hdk
  have hdom:∀ {A':List Chunk},Sep w (ownsW A) w' A'→c∈A'→c.wr=true→ownsW A k∨w.heap.size≤k:=by
   intro A'
   induction A' with
   | nil=>intro _ hc;simp at hc
   | cons x A' ih=>
    intro hs hc hcw;rcases List.mem_cons.1 hc with rfl | hc
    ·exact (hs.2.1 k hck).2 hcw
    ·exact ih hs.2.2.2 hc hcw
  cases hcw:c.wr with
  | true=>
   rcases hdom hA' hc hcw with h1 | h1
   ·obtain ⟨x,hx,hxw,hxo⟩:=ownsW_mem.1 h1;exact hAR x hx d hd (.inl hxw) k hxo hdk
   ·omega
  | false=>
   rcases hro c hc hcw k hck with ⟨a,ha,haw,hao⟩ | h1
   ·have hdw:d.wr=true:=by rcases hw with h2 | h2;rw [hcw] at h2;cases h2;exact h2
    exact hAR a ha d hd (.inr hdw) k hao hdk
   ·omega
def Lends (R:List Chunk) (c:Chunk):Prop:=c.wr=false∧(∀ k,c.own k→∃ x∈R,x.own k)∧∀ w,(∀ x∈R,x.ok w)→c.ok w
def LendsAll (R:List Chunk):List Chunk→Prop
 | []=>True
 | c::A=>Lends R c∧LendsAll R A
theorem LendsAll.mem {R:List Chunk}:∀ {A:List Chunk},LendsAll R A→∀ c∈A,Lends R c
 | [],_,c,hc=>by simp at hc
 | x::A,h,c,hc=>by
  rcases List.mem_cons.1 hc with rfl | hc
  ·exact h.1
  ·exact h.2.mem c hc
def allW:List Chunk→Bool
 | []=>true
 | c::A=>match c.wr with
  | true=>allW A
  | false=>false
theorem allW_mem:∀ {A:List Chunk},allW A=true→∀ c∈A,c.wr=true
 | [],_,c,hc=>by simp at hc
 | x::A,h,c,hc=>by
  simp only [allW] at h;split at h
  ·rename_i hx;rcases List.mem_cons.1 hc with rfl | hc
   ·exact hx
   ·exact allW_mem h c hc
  ·cases h
theorem Sep.lend {w0 w:World} {M N:Nat→Prop} {A R:List Chunk}:∀ {B:List Chunk},Sep w0 M w (A++R)→LendsAll R B→Sep w N w B
 | [],_,_=>trivial
 | c::B,h,hl=>by
  obtain ⟨⟨hwr,hown,hok⟩,hl'⟩:=hl;obtain ⟨hA,hR,hAR⟩:=Sep.append.1 h;refine ⟨hok w (fun x hx=>hR.mem x hx),fun k hk=>⟨(by obtain ⟨x,hx,hxo⟩:=hown k hk;exact hR.dom x hx k hxo),fun hw=>(by rw [hwr] at hw;cases hw)⟩,fun d hd hw=>?_,h.lend hl'⟩;obtain ⟨hdw,_⟩:=hl'.mem d hd;rcases hw with h1 | h1
  ·rw [hwr] at h1;cases h1
  ·rw [hdw] at h1;cases h1
theorem St.calls {α:Type} {w0 w:World} {M:Nat→Prop} {H A B R:List Chunk} {is:List Nat} {f:FuncId} {args:List Value} {val:α→Value} {out:α→List Chunk} {Φ:α→Prop} (hw:St w0 M w H) (hs:FnC P f args A B val out Φ) (hp:picks is H=some (A,R)) (hl:LendsAll R B) (ho:∀ x,allW (out x)=true) :
  Calls P f args.toArray w fun e w'=>∃ x,e = .returned (val x)∧St w0 M w' (out x++R)∧Φ x:=by
 have hsep:=picks_sep hp hw.sep;obtain ⟨hA,hR,hAR⟩:=Sep.append.1 hsep
 have hpre:St w (ownsW A) w (A++B):=by
  refine ⟨Base.refl _ _,Sep.append.2 ⟨hA.local _ (fun c hc hcw k hk=>ownsW_mem.2 ⟨c,hc,hcw,hk⟩),Sep.lend hsep hl,fun c hc d hd hwr k hck hdk=>?_⟩⟩;obtain ⟨hdw,hown,_⟩:=hl.mem d hd;obtain ⟨x,hx,hxo⟩:=hown k hdk;have hcw:c.wr=true:=by rcases hwr with h1 | h1;exact h1;rw [hdw] at h1;cases h1
  exact hAR c hc x hx (.inl hcw) k hck hxo
 refine (hs.run w hpre).mono fun e w' hret=>?_
 obtain ⟨x,he,hst,hphi⟩:=hret;exact ⟨x,he,St.call hsep hw.base hst (fun c hc hcw=>by rw [allW_mem (ho x) c hc] at hcw;cases hcw),hphi⟩
theorem xl_call {α:Type} (is:List Nat) {f:FuncId} {vs:List Value} {A B R:List Chunk} {val:α→Value} {out:α→List Chunk} {Φ:α→Prop} {args:Array Operand} {ts:Array TypeId} (hs:FnC P f vs A B val out Φ) (hw:St w0 M w H)
  (ha:E.evs args.toList=some vs) (hp:picks is H=some (A,R)) (hl:LendsAll R B) (ho:∀ x,allW (out x)=true) (hn:Nat.blt d n.m=true)
  (h:∀ x w',St w0 M w' (out x++R)→Φ x→XL P ops n Q ((d,val x)::E) L w'):XL P ops n Q E (⟨some d,.call { callee:=.value (.func f),args:=args,argTypes:=ts },ty,pos,after,none⟩::L) w:=by
 refine ⟨fun q act hact=>?_⟩;refine wpList_plain rfl fun K hK=>?_
 obtain ⟨fn,c,hf,hbody,hname⟩:=hs.called;have hname':¬ fn.name = "runtime.NumGoroutine" := by simpa using hname
 have hargs:args.map act.eval=vs.toArray:=by
  apply Array.ext';rw [Array.toList_map]
  simpa using hact.evals ha
 have hrun:(execOp act.eval ⟨some d,.call { callee:=.value (.func f),args:=args,argTypes:=ts },ty,pos,after,none⟩).run P w = .ok (.enter f vs.toArray) w:=by
  simp [execOp,resolve,invoke,callFunc,Act.eval,Deferred.ofValue,program,Sem.run,hf,hbody,hname',hargs]
 unfold Oper.wp;rw [hrun,Oper.upon_enter];refine (hw.calls hs hp hl ho).mono fun e w' hret=>?_
 obtain ⟨x,rfl,hst,hphi⟩:=hret;exact hK _ _ ((h x w' hst hphi).run q _ (hact.put hn))
theorem FnC.frame {α:Type} {f:FuncId} {args:List Value} {A B A' R:List Chunk} {val:α→Value} {out:α→List Chunk} {Φ:α→Prop} (is:List Nat) (hs:FnC P f args A B val out Φ) (hp:picks is A'=some (A,R)) (hl:LendsAll R B) (ho:∀ x,allW (out x)=true):FnC P f args A' [] val (fun x=>out x++R) Φ:=
 ⟨hs.called,fun w hw=>by
  rw [List.append_nil] at hw;exact hw.calls hs hp hl ho⟩
theorem FnC.map {α β:Type} {f:FuncId} {args:List Value} {A B:List Chunk} {val:α→Value} {out:α→List Chunk} {Φ:α→Prop} {val':β→Value} {out':β→List Chunk} {Φ':β→Prop} (hs:FnC P f args A B val out Φ)
  (h:∀ x,Φ x→∃ y,val x=val' y∧(∃ is R,picks is (out x)=some (out' y,R))∧Φ' y):FnC P f args A B val' out' Φ':=
 ⟨hs.called,fun w hw=>(hs.run w hw).mono fun e w' hret=>by
  obtain ⟨x,rfl,hst,hphi⟩:=hret;obtain ⟨y,hv,⟨is,R,hp⟩,hphi'⟩:=h x hphi;exact ⟨y,by rw [hv],hst.sub is hp,hphi'⟩⟩
theorem rounds_mono {F:Fence} {nn:Nat} {Q:Exit→Act→World→Prop} {c:Code}:∀ {m m':Nat} {a:Act} {w:World},m≤m'→Code.roundsIn F nn P c Q m a w→Code.roundsIn F nn P c Q m' a w
 | 0,_,_,_,_,h=>h.elim
 | m+1,0,_,_,hm,_=>by omega
 | m+1,m'+1,a,w,hm,h=>wpIn_mono h (fun e a w hq=>by
  cases e with
  | normal=>exact rounds_mono (Nat.le_of_succ_le_succ hm) hq
  | _=>exact hq)
theorem loop_ghost {F:Fence} {nn:Nat} {Q:Exit→Act→World→Prop} {a:Act} {w:World} {c:Code} (I:Nat→Act→World→Prop) (m0:Nat) (h0:I m0 a w)
  (h:∀ m a w,I m a w→c.wpIn F nn P (Exit.then (fun a' w'=>∃ m',m'<m∧I m' a' w') Q) a w):(Code.loop c).wpIn F nn P Q a w:=by
 refine wpIn_loop_rounds (m0+1) ?_
 have key:∀ m a w,I m a w→Code.roundsIn F nn P c Q (m+1) a w:=by
  intro m
  induction m using Nat.strongRecOn with
  | ind m ih=>
   intro a w hi;rw [roundsIn_succ];refine wpIn_mono (h m a w hi) (fun e a' w' hq=>?_);cases e with
   | normal=>obtain ⟨m',hlt,hi'⟩:=hq;exact rounds_mono hlt (ih m' hlt a' w' hi')
   | _=>exact hq
 exact key m0 a w h0
theorem xc_loop {α:Type} {c:Code} (Ev:α→Env) (Hv:α→List Chunk) (φ:α→Prop) (μ:α→Nat) (x0:α) (hw:St w0 M w H) (hE:EnvSub E (Ev x0)) (hH:H=Hv x0) (hφ:φ x0)
  (round:∀ x w,φ x→St w0 M w (Hv x)→∀ K:Act→World→Prop,(∀ y E' w',φ y→μ y<μ x→St w0 M w' (Hv y)→EnvSub E' (Ev y)→∀ a,EnvOk a E' n→K a w')→XC P n (Exit.then K Q) (Ev x) c w):XC P n Q E (.loop c) w:=by
 refine ⟨fun q a ha=>?_⟩;subst hH;refine loop_ghost (fun m a' w'=>∃ x,φ x∧μ x=m∧EnvOk a' (Ev x) n∧St w0 M w' (Hv x)) (μ x0) ⟨x0,hφ,rfl,ha.sub hE,hw⟩ ?_;rintro m a' w' ⟨x,hx,rfl,ha',hw'⟩;exact (round x w' hx hw' _ (fun y E' w'' hy hlt hst hsub a'' ha''=>⟨μ y,hlt,y,hy,rfl,ha''.sub hsub,hst⟩)).run q.then a' ha'
end
end
section
set_option maxRecDepth 512
def quietOp:Op→Bool
 | .move _ | .assign _ | .pick .. | .nilCheck _ | .binOp .. | .unOp .. | .convert .. | .makeFunc .. | .slice .. | .fieldAddr .. | .field .. | .indexAddr .. | .index .. | .extract .. | .load .. | .build .. => true
 | .call { callee:=.builtin .len,.. }=>true
 | _=>false
def quietI (ops:Array Oper) (i:Nat):Bool:=((ops[i]?).map fun o=>quietOp o.op).getD false
def depsB (ops:Array Oper) (j:Nat):List Nat:=match ops[j]? with
 | some o=>(o.after.toList.filter (Region.binds .any)).map Edge.on
 | none=>[]
def anc (ops:Array Oper):Nat→Nat→Nat→Bool
 | 0,_,_=>false
 | f+1,j,i=>(depsB ops j).any fun k=>Nat.beq k i || anc ops f k i
def keepS (ops:Array Oper) (ls:List Nat) (j:Nat):Bool:=
 match ops[j]? with
 | some _=>ls.any fun i=>(i != j) && !(anc ops 4 j i)
 | none=>false
def Closed (ops:Array Oper) (listed:Array Bool):Prop:=∀ k,listed.getD k false=true→∀ i∈depsB ops k,listed.getD i false=true
theorem closed_anc {ops:Array Oper} {listed:Array Bool} (hc:Closed ops listed):∀ (f j i:Nat),(∀ k∈depsB ops j,listed.getD k false=true)→anc ops f j i=true→listed.getD i false=true
 | 0,_,_,_,h=>by cases h
 | f+1,j,i,hd,h=>by
  simp only [anc,List.any_eq_true,Bool.or_eq_true] at h;obtain ⟨k,hk,h | h⟩:=h
  ·rw [← Nat.eq_of_beq_eq_true h];exact hd k hk
  ·exact closed_anc hc f k i (hc k (hd k hk)) h
theorem ready_deps {ops:Array Oper} {listed:Array Bool} {j:Nat} (hj:j∈Region.ready .any ops listed):∀ k∈depsB ops j,listed.getD k false=true:=by
 obtain ⟨_,oj,hoj,hall⟩:=mem_ready.1 hj;intro k hk;unfold depsB at hk;rw [hoj] at hk;simp only [List.mem_map,List.mem_filter,Array.mem_toList_iff] at hk;obtain ⟨e,⟨he,hb⟩,rfl⟩:=hk;exact hall e he hb
theorem closed_set {ops:Array Oper} {listed:Array Bool} {j:Nat} (hc:Closed ops listed) (hj:j∈Region.ready .any ops listed):Closed ops (listed.setIfInBounds j true):=by
 have up:∀ i,listed.getD i false=true→(listed.setIfInBounds j true).getD i false=true:=fun i hi=>by
  simp only [Array.getD_eq_getD_getElem?] at hi ⊢;by_cases hij:j=i
  ·subst hij;by_cases hlt:j<listed.size
   ·simp [hlt]
   ·simp [Array.getElem?_eq_none (Nat.le_of_not_lt hlt)] at hi
  ·rw [Array.getElem?_setIfInBounds_ne hij];exact hi
 intro k hk i hi;by_cases hkj:j=k
 ·subst hkj;exact up i (ready_deps hj i hi)
 ·refine up i (hc k ?_ i hi);simp only [Array.getD_eq_getD_getElem?] at hk ⊢
  rwa [Array.getElem?_setIfInBounds_ne hkj] at hk
theorem closed_none {ops:Array Oper} {n:Nat}:Closed ops (Array.replicate n false):=by
 intro k hk;simp only [Array.getD_eq_getD_getElem?] at hk;by_cases h:k<n
 ·simp [h] at hk
 ·simp [Array.getElem?_eq_none,h] at hk
def Owed (ops:Array Oper) (ls:List Nat) (S:World→Prop) (i:Nat) (w w':World):Prop:=if quietI ops i=true then w'=w else (keepS ops ls i=true→S w')
def wpAnyS (P:Program) (ops:Array Oper) (Q:Exit→Act→World→Prop) (S:World→Prop) (ls:List Nat):Nat→Array Bool→Act→World→Prop
 | 0,listed,a,w=>Region.ready .any ops listed=[]∧Q .normal a w
 | fuel+1,listed,a,w=>
  (Region.ready .any ops listed=[]→Q .normal a w) ∧
  ∀ i∈Region.ready .any ops listed,wpOp P ops Q i (fun a' w'=>Owed ops ls S i w w'∧wpAnyS P ops Q S ls fuel (listed.setIfInBounds i true) a' w') a w
section
variable {P:Program} {ops:Array Oper} {Q:Exit→Act→World→Prop} {S:World→Prop} {ls:List Nat}
theorem wpAny_of_S:∀ (fuel:Nat) (listed:Array Bool) (a:Act) (w:World),wpAnyS P ops Q S ls fuel listed a w→wpAny P .any ops Q fuel listed a w
 | 0,_,_,_,h=>h
 | fuel+1,_,_,_,h=>⟨h.1,fun i hi=>wpOp_mono (fun a' w' h'=>wpAny_of_S fuel _ a' w' h'.2) (h.2 i hi)⟩
theorem wpAnyS_first {i:Nat} {oi:Oper} {v:Value} (hi:ops[i]? = some oi) (hq:quietI ops i=true) (hsel:∀ (j:Nat) (o:Oper) cs b,ops[j]? = some o→o.op ≠ .select cs b)
  (hQ:∀ c a w,Q (.panic c) (a.put oi.dst v) w→Q (.panic c) a w) {S':World→Prop} (hS':(∀ w,S' w)∨(S'=S∧i∈ls)) :
  ∀ (fuel:Nat) (listed:Array Bool) (a:Act) (w:World),
   (∀ j oj,ops[j]? = some oj→j≠i→listed.getD j true=false→(∀ e∈oj.after,Region.binds .any e=true→e.on≠i)→oi.apart ops oj=true) →
   Closed ops listed→i∈Region.ready .any ops listed→YieldsIf P ops S' oi v a→S' w →
   wpAnyS P ops Q S ls fuel (listed.setIfInBounds i true) (a.put oi.dst v) w→wpAnyS P ops Q S ls (fuel+1) listed a w:=by
 have hown:∀ w,Owed ops ls S i w w:=fun w=>by unfold Owed;rw [if_pos hq]
 intro fuel
 induction fuel with
 | zero=>
  intro listed a w _ _ hr hy hS H;refine ⟨fun h=>(by rw [h] at hr;cases hr),fun j hj=>?_⟩;by_cases hji:j=i
  ·subst hji;exact hy.wpOp hi hS ⟨hown w,H⟩
  ·have:=ready_mono hj hji;rw [H.1] at this;cases this
 | succ fuel ih=>
  intro listed a w hfree hcl hr hy hS H;refine ⟨fun h=>(by rw [h] at hr;cases hr),fun j hj=>?_⟩;by_cases hji:j=i
  ·subst hji;exact hy.wpOp hi hS ⟨hown w,H⟩
  ·have h1:=H.2 j (ready_mono hj hji);obtain ⟨hjun,oj,hoj,hall⟩:=mem_ready.1 hj
   have hnot:∀ e∈oj.after,Region.binds .any e=true→e.on≠i:=fun e he hb heq=>by
    have h1:=hall e he hb;have h0:=(mem_ready.1 hr).1;rw [heq] at h1;rcases Nat.lt_or_ge i listed.size with h' | h'
    ·simp [h'] at h0 h1;rw [h0] at h1;cases h1
    ·simp [Array.getElem?_eq_none h'] at h1
   have h2:=wpOp_putIf hoj (hfree j oj hoj hji hjun hnot) (fun cs b=>hsel i oi cs b hi) (fun cs b=>hsel j oj cs b hoj) hQ hy h1
   have hfree':∀ k ok,ops[k]? = some ok→k≠i→(listed.setIfInBounds j true).getD k true=false →
     (∀ e∈ok.after,Region.binds .any e=true→e.on≠i)→oi.apart ops ok=true:=fun k ok hk hki hun hno=>by
    refine hfree k ok hk hki ?_ hno;by_cases hjk:j=k
    ·subst hjk;exact hjun
    ·rw [getD_set_ne true hjk] at hun;exact hun
   refine wpOp_mono (fun a' w' h3=>?_) h2;obtain ⟨hyi,howed,h4⟩:=h3
   have hS2:S' w':=by
    rcases hS' with hall' | ⟨rfl,hmem⟩
    ·exact hall' w'
    ·have hk:keepS ops ls j=true:=by
      unfold keepS;rw [hoj];rw [List.any_eq_true];refine ⟨i,hmem,?_⟩;simp only [Bool.and_eq_true,bne_iff_ne,ne_eq,Bool.not_eq_true'];refine ⟨fun e=>hji e.symm,?_⟩;cases ha:anc ops 4 j i with
      | false=>rfl
      | true=>
       have h1:=closed_anc hcl 4 j i (ready_deps hj) ha;have h0:=(mem_ready.1 hr).1;rcases Nat.lt_or_ge i listed.size with h' | h'
       ·simp [h'] at h0 h1;rw [h0] at h1;cases h1
       ·simp [Array.getElem?_eq_none h'] at h1
     unfold Owed at howed;by_cases hqj:quietI ops j=true
     ·rw [if_pos hqj] at howed;rw [howed];exact hS
     ·rw [if_neg hqj] at howed;exact howed hk
   refine ⟨howed,ih (listed.setIfInBounds j true) a' w' hfree' (closed_set hcl hj) (ready_mono hr (Ne.symm hji)) hyi hS2 ?_⟩;rw [Array.setIfInBounds_comm _ _ hji];exact h4
def chk (ops:Array Oper) (listed:Array Bool) (i:Nat):Bool:=Region.noSelect ops && (Region.free .any ops listed i && ((Region.ready .any ops listed).contains i && quietI ops i))
def nthO:List Oper→Nat→Option Oper
 | [],_=>none
 | o::_,0=>some o
 | _::l,i+1=>nthO l i
theorem nthO_eq:∀ (l:List Oper) (i:Nat),nthO l i=l.toArray[i]?
 | [],i=>by simp [nthO]
 | v::l,0=>by simp [nthO]
 | v::l,i+1=>by simp [nthO,nthO_eq l i]
structure XA (P:Program) (l:List Oper) (n:Cx) (Q:Exit→Act→World→Prop) (S:World→Prop) (ls:List Nat) (E:Env) (fuel:Nat) (listed:Array Bool) (w:World):Prop where
 run:QOk Q→Closed l.toArray listed→∀ a,EnvOk a E n→wpAnyS P l.toArray Q S ls fuel listed a w
variable {l:List Oper} {T:Tab P} {n:Cx} {E:Env} {w w0:World} {M:Nat→Prop} {H H':List Chunk} {d:Nat} {ty:TypeId} {pos:String} {after:Array Edge} {fuel:Nat} {listed:Array Bool} {i:Nat}
theorem put_defers (a:Act) (d:Option Tmp) (v:Value):(a.put d v).defers=a.defers:=by cases d <;> rfl
theorem xa_take {oi:Oper} {v:Value} {S':World→Prop} (hi:nthO l i=some oi) (hc:chk l.toArray listed i=true) (hd:oi.dst=some d) (hn:Nat.blt d n.m=true)
  (hS':(∀ w,S' w)∨(S'=S∧i∈ls)) (hS:S' w) (hy:∀ a,EnvOk a E n→YieldsIf P l.toArray S' oi v a) (h:XA P l n Q S ls ((d,v)::E) fuel (listed.setIfInBounds i true) w):XA P l n Q S ls E (fuel+1) listed w:=by
 refine ⟨fun q hcl a ha=>?_⟩;simp only [chk,Bool.and_eq_true,List.contains_iff_mem] at hc;obtain ⟨c1,c2,c3,c4⟩:=hc;refine wpAnyS_first (by rw [← nthO_eq];exact hi) c4 (Region.noSelect_spec c1) (fun c a w h=>q.panic c _ _ _ (put_defers _ _ _).symm h) hS' fuel listed a w (Region.free_spec (by rw [← nthO_eq];exact hi) c2) hcl c3 (hy a ha) hS ?_;rw [hd];exact h.run q (closed_set hcl c3) _ (ha.put hn)
def guardYes (l:List Oper) (E:Env):Option (Nat×Bool)→Bool
 | none=>true
 | some (j,want)=>match nthO l j with
  | some oj=>(match oj.dst with
   | some t=>(match E.get t with
    | some (.bool b)=>b == want
    | _=>false)
   | none=>false)
  | none=>false
def guardNo (l:List Oper) (E:Env):Option (Nat×Bool)→Bool
 | none=>false
 | some (j,want)=>match nthO l j with
  | some oj=>(match oj.dst with
   | some t=>(match E.get t with
    | some v=>gno v want
    | _=>false)
   | none=>false)
  | none=>false
theorem wanted_yes {o:Oper} (h:guardYes l E o.guard=true) {a:Act} (ha:EnvOk a E n):Region.wanted o (yielded l.toArray a.tmps)=true:=by
 unfold guardYes at h;unfold Region.wanted;cases hg:o.guard with
 | none=>rfl
 | some p=>
  obtain ⟨j,want⟩:=p;rw [hg] at h;dsimp only at h ⊢;split at h
  ·rename_i oj hj;split at h
   ·rename_i t ht;split at h
    ·rename_i b hb;have e:l.toArray[j]? = some oj:=by rw [← nthO_eq];exact hj
     simp only [yielded,e,Option.bind_some,ht,ha.get t _ hb];cases b <;> cases want <;> simp_all
    ·cases h
   ·cases h
  ·cases h
theorem wanted_no {o:Oper} (h:guardNo l E o.guard=true) {a:Act} (ha:EnvOk a E n):Region.wanted o (yielded l.toArray a.tmps)=false:=by
 unfold guardNo at h;unfold Region.wanted;cases hg:o.guard with
 | none=>rw [hg] at h;cases h
 | some p=>
  obtain ⟨j,want⟩:=p;rw [hg] at h;dsimp only at h ⊢;split at h
  ·rename_i oj hj;split at h
   ·rename_i t ht;split at h
    ·rename_i v hb;have e:l.toArray[j]? = some oj:=by rw [← nthO_eq];exact hj
     simp only [yielded,e,Option.bind_some,ht,ha.get t _ hb];unfold gno at h;split at h
     ·rename_i got;cases got <;> cases want <;> simp_all
     ·simp
     ·cases h
    ·cases h
   ·cases h
  ·cases h
theorem xa_g (i:Nat) {op:Op} {v:Value} {g:Option (Nat×Bool)} (hi:nthO l i=some ⟨some d,op,ty,pos,after,g⟩) (hg:guardYes l E g=true) (hv:Gives P n E op ty v) (hn:Nat.blt d n.m=true) (hc:chk l.toArray listed i=true)
  (h:XA P l n Q S ls ((d,v)::E) fuel (listed.setIfInBounds i true) w):XA P l n Q S ls E (fuel+1) listed w:=
 xa_take hi hc rfl hn (S':=fun _=>True) (.inl fun _=>trivial) trivial (fun a ha=>.inl ⟨wanted_yes hg ha,fun w _=>hv.run _ _ _ _ a ha w⟩) h
theorem xa_skip (i:Nat) {oi:Oper} (hi:nthO l i=some oi) (hg:guardNo l E oi.guard=true) (hd:oi.dst=some d) (hn:Nat.blt d n.m=true) (hc:chk l.toArray listed i=true)
  (h:XA P l n Q S ls ((d,undef)::E) fuel (listed.setIfInBounds i true) w):XA P l n Q S ls E (fuel+1) listed w:=
 xa_take hi hc hd hn (S':=fun _=>True) (.inl fun _=>trivial) trivial (fun _ ha=>.inr ⟨wanted_no hg ha,rfl⟩) h
def SC (Hs:List Chunk) (w:World):Prop:=∀ c∈Hs,c.ok w
theorem SC.nth {Hs:List Chunk} {w:World} (h:SC Hs w) {i:Nat} {c:Chunk} (hp:nthC Hs i=some c):c.ok w:=h c (nthC_mem hp)
theorem SC.again {Hs:List Chunk} {w w':World} (_:SC Hs w) (h:SC Hs w'):SC Hs w':=h
theorem sc_nil:SC [] w:=fun _ hc=>by simp at hc
theorem sc_cons {c:Chunk} {Hs:List Chunk} (hw:St w0 M w H) {i:Nat} (hp:nthC H i=some c) (h:SC Hs w):SC (c::Hs) w:=fun x hx=>by
 rcases List.mem_cons.1 hx with rfl | hx
 ·exact hw.nth i hp
 ·exact h x hx
theorem run_load_cell' {a:Act} (T:Tab P) {x:Operand} {t:TypeId} {ti:TyI} {ad:Addr} {v:Value} {o:Oper} (ho:o.op = .load t x) (hx:a.eval x = .pointer (some ad)) (ht:T.get t=some ti) (hi:isAggD ti.desc=false)
  (hv:w.cell? ad=some v):(execOp a.eval o).run P w = .ok (.value v) w:=by
 simp [execOp,ho,hx,Instr.loadAt,Instr.sureAddr,loadVar,isAgg_of ht,hi,hv]
theorem run_load_cells' {a:Act} (T:Tab P) {x:Operand} {t:TypeId} {ti:TyI} {ad:Addr} {vs:List Value} {o:Oper} (ho:o.op = .load t x) (hx:a.eval x = .pointer (some ad)) (ht:T.get t=some ti) (hi:isAggD ti.desc=true)
  (hl:vs.length=ti.size) (hv:∀ j v,vs[j]? = some v→w.cell? (ad.add j)=some v):(execOp a.eval o).run P w = .ok (.value (.agg vs.toArray)) w:=by
 obtain ⟨tinf,z,g1,g2,_,_,_⟩:=T.inf ht;have hrun:=run_loadCells_list (P:=P) w ad vs hv;rw [hl,← g2] at hrun;simp [execOp,ho,hx,Instr.loadAt,Instr.sureAddr,loadVar,isAgg_of ht,hi,sizeOf,typeInfo,program,Sem.run,g1,hrun]
variable {Hs:List Chunk}
theorem upon_then {o:Oper} {a:Act} {K:Act→World→Prop} (h:o.wp P a w K (Exit.then K Q)):o.wp P a w K Q:=by
 unfold Oper.wp at h ⊢;generalize (execOp a.eval o).run P w=r at h ⊢;cases r with
 | ok x w'=>
  cases x <;> simp only [Oper.upon] at h ⊢ <;> exact h
 | halt x w'=>cases x <;> simp only [Oper.upon] at h ⊢ <;> exact h
theorem xa_eff (i:Nat) {oi:Oper} (hi:nthO l i=some oi) (hr:(Region.ready .any l.toArray listed == [i])=true)
  (h:∀ K:Act→World→Prop,(∀ E' w',Owed l.toArray ls S i w w'→XA P l n Q S ls E' fuel (listed.setIfInBounds i true) w'→∀ a,EnvOk a E' n→K a w')→∀ ops:Array Oper,ops.toList=l→XL P ops n (Exit.then K Q) E [oi] w):XA P l n Q S ls E (fuel+1) listed w:=by
 refine ⟨fun q hcl a ha=>?_⟩;have hr':Region.ready .any l.toArray listed=[i]:=by simpa using hr
 refine ⟨fun h0=>(by rw [hr'] at h0;cases h0),fun j hj=>?_⟩;have hcs:=closed_set hcl hj;rw [hr'] at hj;simp only [List.mem_singleton] at hj;subst hj;have hx:=(h (fun a' w'=>Owed l.toArray ls S j w w'∧wpAnyS P l.toArray Q S ls fuel (listed.setIfInBounds j true) a' w') (fun E' w' ho hxa a' ha'=>⟨ho,hxa.run q hcs a' ha'⟩) l.toArray (by simp)).run q.then a ha
 unfold wpList at hx;unfold wpOp;rw [← nthO_eq,hi];simp only [];split
 ·rename_i hw;rw [if_pos hw] at hx;exact hx.imp (fun h=>upon_then h) (fun h=>h)
 ·rename_i hw;rw [if_neg hw] at hx;exact hx
theorem xq_any {K:Act→World→Prop} {w':World} (hK:∀ E' w',Owed l.toArray ls S i w w'→XA P l n Q S ls E' fuel (listed.setIfInBounds i true) w'→∀ a,EnvOk a E' n→K a w') {Q':Exit→Act→World→Prop}
  (ho:Owed l.toArray ls S i w w') (h:XA P l n Q S ls E fuel (listed.setIfInBounds i true) w'):XQ n (Exit.then K Q') .normal E w':=⟨fun q a ha=>hK E w' ho h a ha⟩
theorem owed_quiet (hq:quietI l.toArray i=true):Owed l.toArray ls S i w w:=by unfold Owed;rw [if_pos hq]
theorem owed_none {w':World} (hq:quietI l.toArray i=false) (hk:keepS l.toArray ls i=false):Owed l.toArray ls S i w w':=by
 unfold Owed;rw [if_neg (by rw [hq];decide)];intro h;rw [hk] at h;cases h
theorem owed_some {w':World} (hq:quietI l.toArray i=false) (h:S w'):Owed l.toArray ls S i w w':=by
 unfold Owed;rw [if_neg (by rw [hq];decide)];exact fun _=>h
theorem xa_done (hr:(Region.ready .any l.toArray listed == [])=true) (h:XQ n Q .normal E w):XA P l n Q S ls E fuel listed w:=⟨fun q _ a ha=>by
 have hr':Region.ready .any l.toArray listed=[]:=by simpa using hr
 cases fuel with
 | zero=>exact ⟨hr',h.run q a ha⟩
 | succ k=>exact ⟨fun _=>h.run q a ha,by rw [hr'];simp⟩⟩
theorem xc_draw (hm:P.follows .mixedOrders=true) (ls:List Nat) (Hs:List Chunk) {id:Nat} (hd:noDef l=true) (hw:St w0 M w H) (hs:SC Hs w)
  (h:∀ w,St w0 M w H→SC Hs w→XA P l n Q (SC Hs) ls E l.toArray.size (Array.replicate l.toArray.size false) w):XC P n Q E (.region id l.toArray true) w:=
 ⟨fun q a ha=>wpIn_region_any hm (any_fw q (noDef_mem hd) _ _ _ _ (wpAny_of_S _ _ _ _ ((h _ (hw.same (Turns.drew _ w)) (fun c hc=>c.loc w _ (fun _ _=>rfl) (hs c hc))).run q closed_none a ha)))⟩
def nthsC (H:List Chunk):List Nat→Option (List Chunk)
 | []=>some []
 | i::is=>match nthC H i,nthsC H is with
  | some c,some cs=>some (c::cs)
  | _,_=>none
theorem sc_nths (hw:St w0 M w H):∀ {is:List Nat} {Hs:List Chunk},nthsC H is=some Hs→SC Hs w
 | [],Hs,h=>by simp only [nthsC,Option.some.injEq] at h;subst h;exact sc_nil
 | i::is,Hs,h=>by
  simp only [nthsC] at h;split at h
  ·rename_i c cs h1 h2;cases h;exact sc_cons hw h1 (sc_nths hw h2)
  ·cases h
theorem xc_drawn (hm:P.follows .mixedOrders=true) (ls:List Nat) (is:List Nat) {id:Nat} {Hs:List Chunk} (hd:noDef l=true) (hw:St w0 M w H) (hs:nthsC H is=some Hs)
  (h:∀ w,St w0 M w H→SC Hs w→XA P l n Q (SC Hs) ls E l.toArray.size (Array.replicate l.toArray.size false) w):XC P n Q E (.region id l.toArray true) w:=
 xc_draw hm ls Hs hd hw (sc_nths hw hs) h
end
end
end Go.Sx
namespace Go.Sx
open Go Chunk
open Go.ChangeShapes Go.WideShapes Go.RowKit
section
set_option maxRecDepth 512
def SeenC (w:World) (c:Chunk):Prop:=c.wr=false∧c.ok w∧∀ k,c.own k→k<w.heap.size
def Seen (w:World):List Chunk→Prop
 | []=>True
 | c::B=>SeenC w c∧Seen w B
theorem Seen.mem {w:World}:∀ {B:List Chunk},Seen w B→∀ c∈B,SeenC w c
 | [],_,c,hc=>by simp at hc
 | x::B,h,c,hc=>by
  rcases List.mem_cons.1 hc with rfl | hc
  ·exact h.1
  ·exact h.2.mem c hc
theorem Seen.sep {w:World} {M:Nat→Prop}:∀ {B:List Chunk},Seen w B→Sep w M w B
 | [],_=>trivial
 | c::B,h=>by
  refine ⟨h.1.2.1,fun k hk=>⟨h.1.2.2 k hk,fun hw=>by rw [h.1.1] at hw;cases hw⟩,fun d hd hw=>?_,Seen.sep h.2⟩;rcases hw with hw | hw
  ·rw [h.1.1] at hw;cases hw
  ·rw [(h.2.mem d hd).1] at hw;cases hw
theorem Base.below {w w':World} (h:Base w (ownsW []) w'):Below w.heap.size w w':=
 ⟨h.os,h.tape,h.output,h.size,fun k hk=>h.old k hk (fun hf=>hf)⟩
theorem FnC.law {P:Program} {f:FuncId} {args:List Value} {B:List Chunk} (hs:FnC (α:=Unit) P f args [] B (fun _=>.bool true) (fun _=>[]) (fun _=>True)) {w:World} (hB:Seen w B) :
  Calls P f args.toArray w fun e w'=>e = .returned (.bool true)∧Below w.heap.size w w':=
 (hs.run w ⟨Base.refl _ _,hB.sep⟩).mono fun e w' hret=>by
  obtain ⟨_,rfl,hst,_⟩:=hret;exact ⟨rfl,hst.base.below⟩
section
variable {H:Type} {enc:TypeId×Value→H} {P:Program} {w:World} {base b0:Nat} {spare:Nat→Bool} {held:Bool} {r:Reach}
end
end
end Go.Sx
namespace Go.Sx
open Go Chunk
section
set_option maxRecDepth 512
def Wd (w0:World) (M:Nat→Prop) (H:List Chunk) (G:World→Prop):Prop:=∀ w,St w0 M w H→G w
def WS (w0:World) (M:Nat→Prop) (H Hk:List Chunk) (G:World→Prop):Prop:=∀ w,St w0 M w H→SC Hk w→G w
def XR (P:Program) (l:List Oper) (n:Cx) (Q:Exit→Act→World→Prop) (E:Env) (L:List Oper) (w:World):Prop:=∀ ops:Array Oper,ops.toList=l→XL P ops n Q E L w
structure XO (P:Program) (l:List Oper) (n:Cx) (Q:Exit→Act→World→Prop) (S:World→Prop) (ls:List Nat) (E:Env) (ord:List Nat) (fuel:Nat) (listed:Array Bool) (w:World):Prop where
 run:XA P l n Q S ls E fuel listed w
def seqK (P:Program) (ro:Option Nat) (y:Code) (Q:Exit→Act→World→Prop) (a:Act) (w:World):Prop:=QOk Q∧y.wpIn (FW ro) 0 P Q a w
section
variable {P:Program} {T:Tab P} {n:Cx} {Q:Exit→Act→World→Prop} {E:Env} {w0:World} {M:Nat→Prop} {H H':List Chunk} {l L:List Oper}
 {d:Nat} {ty:TypeId} {pos:String} {after:Array Edge} {G:World→Prop}
theorem St.sc {w:World} (hw:St w0 M w H):SC H w:=fun c hc=>hw.sep.mem c hc
theorem w_use {p:Prop} (hp:∀ w,St w0 M w H→p) (h:p→Wd w0 M H G):Wd w0 M H G:=fun w hw=>h (hp w hw) w hw
theorem w_turn (ht:∀ w,St w0 M w H→St w0 M w H') (h:Wd w0 M H' G):Wd w0 M H G:=fun w hw=>h w (ht w hw)
theorem w_sub (is:List Nat) {R:List Chunk} (hp:picks is H=some (H',R)) (h:Wd w0 M H' G):Wd w0 M H G:=fun w hw=>h w (hw.sub is hp)
theorem w_seq {x y:Code} (h:Wd w0 M H (XC P n (Exit.then (seqK P n.ro y Q) Q) E x)):Wd w0 M H (XC P n Q E (.seq x y)):=fun w hw=>⟨fun q a ha=>wpIn_mono (wpIn_seq_k fun K hK=>wpIn_mono ((h w hw).run q.then a ha) (fun e a w hx=>by cases e <;> first | exact hK _ _ hx.2 | exact hx)) (fun _ _ _ h=>h)⟩
theorem w_then {y:Code} (h:Wd w0 M H (XC P n Q E y)):Wd w0 M H (XQ n (Exit.then (seqK P n.ro y Q) Q) .normal E):=fun w hw=>⟨fun q a ha=>⟨⟨q.panic,q.out⟩,(h w hw).run ⟨q.panic,q.out⟩ a ha⟩⟩
theorem w_skip (h:Wd w0 M H (XQ n Q .normal E)):Wd w0 M H (XC P n Q E .skip):=fun w hw=>xc_skip (h w hw)
theorem w_ret (h:Wd w0 M H (XQ n Q .ret E)):Wd w0 M H (XC P n Q E .ret):=fun w hw=>xc_ret (h w hw)
theorem w_exit {id:Nat} (h:Wd w0 M H (XQ n Q (.exit id) E)):Wd w0 M H (XC P n Q E (.exit id)):=fun w hw=>xc_exit (h w hw)
theorem w_label {k:Nat} (h:Wd w0 M H (XQ n Q .normal E)):Wd w0 M H (XC P n Q E (.label k)):=fun w hw=>xc_label (h w hw)
theorem w_block {id:Nat} {c:Code} (h:Wd w0 M H (XC P n (Exit.inBlock id Q) E c)):Wd w0 M H (XC P n Q E (.block id c)):=fun w hw=>xc_block (h w hw)
theorem w_true {c:Operand} {x y:Code} (hc:E.ev c=some (.bool true)) (h:Wd w0 M H (XC P n Q E x)):Wd w0 M H (XC P n Q E (.cond c x y)):=fun w hw=>xc_cond_true hc (h w hw)
theorem w_false {c:Operand} {x y:Code} (hc:E.ev c=some (.bool false)) (h:Wd w0 M H (XC P n Q E y)):Wd w0 M H (XC P n Q E (.cond c x y)):=fun w hw=>xc_cond_false hc (h w hw)
theorem w_yes {c:Operand} {x y:Code} {b:Bool} (hc:E.ev c=some (.bool b)) (hb:b=true) (h:Wd w0 M H (XC P n Q E x)):Wd w0 M H (XC P n Q E (.cond c x y)):=w_true (by rw [hc,hb]) h
theorem w_no {c:Operand} {x y:Code} {b:Bool} (hc:E.ev c=some (.bool b)) (hb:b=false) (h:Wd w0 M H (XC P n Q E y)):Wd w0 M H (XC P n Q E (.cond c x y)):=w_false (by rw [hc,hb]) h
theorem w_region {id:Nat} (hd:noDef l=true) (h:Wd w0 M H (XR P l n Q E l)):Wd w0 M H (XC P n Q E (.region id l.toArray false)):=fun w hw=>xc_region hd (h w hw)
theorem w_nil (h:Wd w0 M H (XQ n Q .normal E)):Wd w0 M H (XR P l n Q E []):=fun w hw ops _=>xl_nil (h w hw)
theorem w_thenRet {K:Act→World→Prop} (h:Wd w0 M H (XQ n Q .ret E)):Wd w0 M H (XQ n (Exit.then K Q) .ret E):=fun w hw=>xq_then_ret (h w hw)
theorem w_thenExit {K:Act→World→Prop} {id:Nat} (h:Wd w0 M H (XQ n Q (.exit id) E)):Wd w0 M H (XQ n (Exit.then K Q) (.exit id) E):=fun w hw=>xq_then_exit (h w hw)
theorem w_inNormal {id:Nat} (h:Wd w0 M H (XQ n Q .normal E)):Wd w0 M H (XQ n (Exit.inBlock id Q) .normal E):=fun w hw=>xq_in_normal (h w hw)
theorem w_inRet {id:Nat} (h:Wd w0 M H (XQ n Q .ret E)):Wd w0 M H (XQ n (Exit.inBlock id Q) .ret E):=fun w hw=>xq_in_ret (h w hw)
theorem w_inExit {id:Nat} (h:Wd w0 M H (XQ n Q .normal E)):Wd w0 M H (XQ n (Exit.inBlock id Q) (.exit id) E):=fun w hw=>xq_in_exit (h w hw)
theorem w_inOther {id id':Nat} (hne:Nat.beq id' id=false) (h:Wd w0 M H (XQ n Q (.exit id') E)):Wd w0 M H (XQ n (Exit.inBlock id Q) (.exit id') E):=fun w hw=>xq_in_other hne (h w hw)
theorem fn_intro {α:Type} {f:FuncId} {fn:Func} {c:Code} {args:List Value} {A B:List Chunk} {val:α→Value} {out:α→List Chunk} {Φ:α→Prop} {m:Nat} (hf:P.funcs[f]? = some fn) (hm:fn.ntmps=m) (hb:fn.body=some c) (hname:(fn.name == "runtime.NumGoroutine")=false) (hle:Nat.ble args.length m=true)
  (h:∀ w0,Wd w0 (ownsW A) (A++B) (XC P ⟨m,[],none⟩ (bodyPost P fn (Ret w0 A val out Φ)) (Env.ofArgs 0 args) c)):FnC P f args A B val out Φ:=
 ⟨⟨fn,c,hf,hb,hname⟩,fun w hw=>x_enter hf hm hb hle (fun _ h=>by obtain ⟨_,h,_⟩:=h;cases h) (h w w hw)⟩
section
variable {α:Type} {A R:List Chunk} {val:α→Value} {out:α→List Chunk} {Φ:α→Prop} {fn:Func} {e:Exit}
end
theorem xl_yes {ops:Array Oper} {w:World} {dst:Option Tmp} {op:Op} {g:Option (Nat×Bool)} (ho:ops.toList=l) (hg:guardYes l E g=true) (h:XL P ops n Q E (⟨dst,op,ty,pos,after,none⟩::L) w):XL P ops n Q E (⟨dst,op,ty,pos,after,g⟩::L) w:=by
 refine ⟨fun q a ha=>?_⟩;have hops:ops=l.toArray:=by rw [← ho]
 have hw:Region.wanted ⟨dst,op,ty,pos,after,g⟩ (yielded ops a.tmps)=true:=by rw [hops];exact wanted_yes hg ha
 have h1:=h.run q a ha;unfold wpList at h1 ⊢;rw [if_pos hw];rw [if_pos (by simp [Region.wanted])] at h1;exact h1
theorem w_gyes {dst:Option Tmp} {op:Op} {g:Nat×Bool} (hg:guardYes l E (some g)=true) (h:Wd w0 M H (XR P l n Q E (⟨dst,op,ty,pos,after,none⟩::L))):Wd w0 M H (XR P l n Q E (⟨dst,op,ty,pos,after,some g⟩::L)):=
 fun w hw ops ho=>xl_yes ho hg (h w hw ops ho)
theorem w_gno {op:Op} {g:Nat×Bool} (hg:guardNo l E (some g)=true) (hn:Nat.blt d n.m=true) (h:Wd w0 M H (XR P l n Q ((d,undef)::E) L)):Wd w0 M H (XR P l n Q E (⟨some d,op,ty,pos,after,some g⟩::L)):=
 fun w hw ops ho=>⟨fun q a ha=>wpList_skip (by have:=wanted_no (o:=⟨some d,op,ty,pos,after,some g⟩) hg ha;rw [← ho] at this;simpa using this) ((h w hw ops ho).run q _ (ha.put hn))⟩
theorem w_gno0 {op:Op} {g:Nat×Bool} (hg:guardNo l E (some g)=true) (h:Wd w0 M H (XR P l n Q E L)):Wd w0 M H (XR P l n Q E (⟨none,op,ty,pos,after,some g⟩::L)):=
 fun w hw ops ho=>⟨fun q a ha=>wpList_skip (by have:=wanted_no (o:=⟨none,op,ty,pos,after,some g⟩) hg ha;rw [← ho] at this;simpa using this) ((h w hw ops ho).run q _ ha.put_none)⟩
def guardT (l:List Oper) (g:Nat×Bool):Option Tmp:=match nthO l g.1 with
 | some o=>o.dst
 | none=>none
theorem envOk_as {a:Act} {t:Tmp} {b c:Bool} (ha:EnvOk a E n) (hv:E.get t=some (.bool b)) (hb:b=c):EnvOk a ((t,.bool c)::E) n:=⟨ha.defers,ha.size,fun t' v' h'=>by
 simp only [Env.get] at h';cases hbq:Nat.beq t t' with
 | true=>
  simp only [hbq,cond_true,Option.some.injEq] at h';have:=Nat.eq_of_beq_eq_true hbq;subst this;subst h';rw [← hb];exact ha.get t _ hv
 | false=>
  simp only [hbq,cond_false] at h';exact ha.get t' v' h'⟩
theorem w_gset {dst:Option Tmp} {op:Op} {g:Nat×Bool} {t:Tmp} {b:Bool} (c:Bool) (hg:guardT l g=some t) (hv:E.get t=some (.bool b)) (hb:b=c) (h:Wd w0 M H (XR P l n Q ((t,.bool c)::E) (⟨dst,op,ty,pos,after,some g⟩::L))):Wd w0 M H (XR P l n Q E (⟨dst,op,ty,pos,after,some g⟩::L)):=
 fun w hw ops ho=>⟨fun q a ha=>(h w hw ops ho).run q a (envOk_as ha hv hb)⟩
theorem w_g {op:Op} {v:Value} (hv:Gives P n E op ty v) (hn:Nat.blt d n.m=true) (h:Wd w0 M H (XR P l n Q ((d,v)::E) L)):Wd w0 M H (XR P l n Q E (⟨some d,op,ty,pos,after,none⟩::L)):=
 fun w hw ops ho=>xl_g hv hn (h w hw ops ho)
structure Lds (P:Program) (n:Cx) (C:List Chunk) (E:Env) (op:Op) (ty:TypeId) (v:Value):Prop where
 run:∀ (dst:Option Tmp) (pos:String) (after:Array Edge) (g:Option (Nat×Bool)) (a:Act),EnvOk a E n→∀ w,SC C w→(execOp a.eval ⟨dst,op,ty,pos,after,g⟩).run P w = .ok (.value v) w
theorem w_ld {op:Op} {v:Value} (hl:Lds P n H E op ty v) (hn:Nat.blt d n.m=true) (h:Wd w0 M H (XR P l n Q ((d,v)::E) L)):Wd w0 M H (XR P l n Q E (⟨some d,op,ty,pos,after,none⟩::L)):=
 fun w hw ops ho=>xl_step rfl rfl hn (fun a ha=>hl.run _ _ _ _ a ha w hw.sc) (h w hw ops ho)
section
variable {C:List Chunk} {i:Nat} {x:Operand} {t:TypeId} {ti:TyI}
theorem ld_b (T:Tab P) {tb:TypeId} {b o:Nat} {cs:List Value} {v:Value} (hx:E.ev x=some (.pointer (some ⟨b,o,none⟩))) (hp:nthC C i=some (blk b cs tb)) (hv:Sx.nth cs o=some v) (ht:T.get t=some ti) (hi:isAggD ti.desc=false):Lds P n C E (.load t x) ty v:=
 .mk <| fun _ _ _ _ a ha w hw=>run_load_cell' T rfl (ha.eval hx) ht hi (by rw [blk_cell (hw.nth hp),← nth_eq,hv])
theorem ld_bs (T:Tab P) {tb:TypeId} {b o:Nat} {cs vs:List Value} (hx:E.ev x=some (.pointer (some ⟨b,o,none⟩))) (hp:nthC C i=some (blk b cs tb)) (ht:T.get t=some ti) (hi:isAggD ti.desc=true) (hv:nths cs o ti.size=some vs):Lds P n C E (.load t x) ty (.agg vs.toArray):=
 .mk <| fun _ _ _ _ a ha w hw=>run_load_cells' T rfl (ha.eval hx) ht hi (nths_spec hv).1 (fun j v hj=>by
  rw [addr_add,blk_cell (hw.nth hp)];have hlt:j<vs.length:=(List.getElem?_eq_some_iff.1 hj).1;rw [(nths_spec hv).2 j (by rw [← (nths_spec hv).1];exact hlt),hj])
theorem ld_r (T:Tab P) {g o cap e sz m:Nat} {xs:List Value} {v:Value} (hx:E.ev x=some (.pointer (some ⟨g,o,none⟩))) (hp:nthC C i=some (row (some ⟨g,0,none⟩) cap e sz m xs)) (ht:T.get t=some ti) (hi:isAggD ti.desc=false) (hv:xs[o]? = some v):Lds P n C E (.load t x) ty v:=
 .mk <| fun _ _ _ _ a ha w hw=>run_load_cell' T rfl (ha.eval hx) ht hi (row_cell (hw.nth hp) o v hv)
theorem ld_rs (T:Tab P) {g o cap e sz m:Nat} {xs vs:List Value} (hx:E.ev x=some (.pointer (some ⟨g,o,none⟩))) (hp:nthC C i=some (row (some ⟨g,0,none⟩) cap e sz m xs)) (ht:T.get t=some ti) (hi:isAggD ti.desc=true) (hv:(xs.drop o).take ti.size=vs) (hl:o+ti.size≤xs.length):Lds P n C E (.load t x) ty (.agg vs.toArray):=
 .mk <| fun _ _ _ _ a ha w hw=>run_load_cells' T rfl (ha.eval hx) ht hi (by rw [← hv,List.length_take,List.length_drop];omega) (fun j v hj=>by
  rw [addr_add];refine row_cell (hw.nth hp) (o+j) v ?_;rw [← hv,List.getElem?_take] at hj;split at hj
  ·rwa [List.getElem?_drop] at hj
  ·cases hj)
theorem ld_g (T:Tab P) {a ad:Addr} {j:Nat} {xs:List Value} {v:Value} (hx:E.ev x=some (.pointer (some ad))) (hp:nthC C i=some (rng (some a) xs)) (ht:T.get t=some ti) (hi:isAggD ti.desc=false) (ho:ad=a.add j) (hv:xs[j]? = some v):Lds P n C E (.load t x) ty v:=
 .mk <| fun _ _ _ _ a ha w hw=>run_load_cell' T rfl (ha.eval hx) ht hi (by rw [ho];exact rng_cell (hw.nth hp) j v hv)
theorem ld_gs (T:Tab P) {a ad:Addr} {j:Nat} {xs vs:List Value} (hx:E.ev x=some (.pointer (some ad))) (hp:nthC C i=some (rng (some a) xs)) (ht:T.get t=some ti) (hi:isAggD ti.desc=true) (ho:ad=a.add j) (hv:(xs.drop j).take ti.size=vs) (hl:j+ti.size≤xs.length):Lds P n C E (.load t x) ty (.agg vs.toArray):=
 .mk <| fun _ _ _ _ a ha w hw=>run_load_cells' T rfl (ha.eval hx) ht hi (by rw [← hv,List.length_take,List.length_drop];omega) (fun k v hk=>by
  rw [ho,add_add];refine rng_cell (hw.nth hp) (j+k) v ?_;rw [← hv,List.getElem?_take] at hk;split at hk
  ·rwa [List.getElem?_drop] at hk
  ·cases hk)
end
structure Eff {α:Type} (P:Program) (n:Cx) (w0:World) (M:Nat→Prop) (H:List Chunk) (E:Env) (dst:Option Tmp) (op:Op) (ty:TypeId) (φ:α→Prop) (E':α→Env) (H':α→List Chunk):Prop where
 run:∀ (pos:String) (after:Array Edge) (ops:Array Oper) (Q:Exit→Act→World→Prop) (L:List Oper) (w:World),St w0 M w H→(∀ x w',φ x→St w0 M w' (H' x)→XL P ops n Q (E' x) L w')→XL P ops n Q E (⟨dst,op,ty,pos,after,none⟩::L) w
theorem w_eff {α:Type} {dst:Option Tmp} {op:Op} {φ:α→Prop} {E':α→Env} {Hn:α→List Chunk} (he:Eff P n w0 M H E dst op ty φ E' Hn) (h:∀ x,φ x→Wd w0 M (Hn x) (XR P l n Q (E' x) L)):Wd w0 M H (XR P l n Q E (⟨dst,op,ty,pos,after,none⟩::L)):=
 fun w hw ops ho=>he.run pos after ops Q L w hw (fun x w' hx hw'=>h x hx w' hw' ops ho)
theorem w_eff0 {dst:Option Tmp} {op:Op} {E':Env} (he:Eff (α:=Unit) P n w0 M H E dst op ty (fun _=>True) (fun _=>E') (fun _=>H')) (h:Wd w0 M H' (XR P l n Q E' L)):Wd w0 M H (XR P l n Q E (⟨dst,op,ty,pos,after,none⟩::L)):=
 w_eff he (fun _ _=>h)
section
variable {x y:Operand} {t e:TypeId} {ti ie:TyI}
theorem eff_store {i:Nat} (T:Tab P) {tb:TypeId} {b o:Nat} {cs vs cs':List Value} {v:Value} (hx:E.ev x=some (.pointer (some ⟨b,o,none⟩))) (hp:Sx.pick H i=some (blk b cs tb,H')) (hy:E.ev y=some v) (hv:cellsO v=some vs) (h1:oneC vs=true)
  (hs:setsO cs o vs=some cs') (ht:T.get t=some ti) (hz:Nat.beq vs.length ti.size=true) (hne:vs≠[]):Eff (α:=Unit) P n w0 M H E none (.store t x y) ty (fun _=>True) (fun _=>E) (fun _=>blk b cs' tb::H'):=
 ⟨fun _ _ _ _ _ w hw h=>xl_store T hw hx hp hy hv h1 hs ht hz hne (fun w' hw'=>h () w' trivial hw')⟩
theorem eff_box {v:Value} {cs:List Value} (hx:E.ev x=some v) (hc:cellsO v=some cs) (hn:Nat.blt d n.m=true):Eff P n w0 M H E (some d) (.box t x) ty (fun (_:Nat)=>True) (fun b=>(d,.pointer (some ⟨b,0,none⟩))::E) (fun b=>blk b cs t::H):=
 ⟨fun _ _ _ _ _ w hw h=>xl_box hw hx hc hn (fun b w' hw'=>h b w' trivial hw')⟩
theorem eff_alloc (T:Tab P) {z:List Value} (ht:T.get t=some ti) (hz:ti.zero=z) (hn:Nat.blt d n.m=true):Eff P n w0 M H E (some d) (.alloc t) ty (fun (_:Nat)=>True) (fun b=>(d,.pointer (some ⟨b,0,none⟩))::E) (fun b=>blk b z t::H):=by
 subst hz;exact ⟨fun _ _ _ _ _ w hw h=>xl_alloc T hw ht hn (fun b w' hw'=>h b w' trivial hw')⟩
theorem eff_buildSlice (T:Tab P) {i:TyI} {len:Nat} {parts:Array (Nat×Operand)} {vs:List (Nat×Value)} {zs cs:List Value} (ht:T.get t=some i) (hi:i.desc = .slice e) (he:T.get e=some ie)
  (hp:E.evps parts.toList=some vs) (hz:zerosL len ie.zero=some zs) (hc:fillL (placeS ie.size) zs vs=some cs) (hsm:Nat.ble (len*ie.size) 16777216=true) (hpos:Nat.blt 0 (len*ie.size)=true) (hze:Nat.beq ie.zero.length ie.size=true) (hn:Nat.blt d n.m=true) :
  Eff P n w0 M H E (some d) (.buildSlice t len parts) ty (fun (_:Nat)=>True) (fun b=>(d,.slice (some ⟨b,0,none⟩) len len)::E) (fun b=>blk b cs e::H):=
 ⟨fun _ _ _ _ _ w hw h=>xl_buildSlice T hw ht hi he hp hz hc hsm hpos hze hn (fun b w' hw'=>h b w' trivial hw')⟩
theorem eff_append {i j:Nat} (T:Tab P) {s:Operand} {eb:TypeId} {ao:Option Addr} {len cap sz:Nat} {xs:List Value} {b m c:Nat} {news:List Value} {H'':List Chunk}
  (hs:E.ev s=some (.slice ao len cap)) (hx:E.ev x=some (.slice (some ⟨b,0,none⟩) m c)) (hpb:Sx.pick H j=some (blk b news eb,H'')) (hp:Sx.pick H'' i=some (row ao cap e sz len xs,H')) (ht:T.get t=some ti) (hti:ti.desc = .slice e) (he:T.get e=some ie) (hsz:Nat.beq ie.size sz=true) (hpos:Nat.blt 0 sz=true) (hzl:Nat.beq ie.zero.length sz=true)
  (hn:Nat.blt d n.m=true) (hl:Nat.beq news.length (m*sz)=true) (h1:oneC news=true) (hbytes:(len+m)*ie.bytes≤140737488355328) (hmax:len+m≤maxLen) :
  Eff P n w0 M H E (some d) (.call { callee:=.builtin .append,args:=#[s,x],argTypes:=#[t,t] }) ty (fun (z:Option Addr×Nat)=>len+m≤z.2∧(m≠0∨len≠0→∃ g,z.1=some ⟨g,0,none⟩)) (fun z=>(d,.slice z.1 (len+m) z.2)::E) (fun z=>row z.1 z.2 e sz (len+m) (xs++news)::H'):=
 ⟨fun _ _ _ _ _ w hw h=>xl_append T hw hs hx hpb hp ht hti he hsz hpos hzl hn hl h1 hbytes hmax (fun a c w' hw' h1 h2=>h (a,c) w' ⟨h1,h2⟩ hw')⟩
theorem eff_appendRow {i j:Nat} (T:Tab P) {s:Operand} {e2:TypeId} {ao asr:Option Addr} {len cap sz m c c2 n2:Nat} {xs xs2:List Value}
  (hs:E.ev s=some (.slice ao len cap)) (hx:E.ev x=some (.slice asr m c)) (hp:Sx.pick H i=some (row ao cap e sz len xs,H')) (hp2:nthC H' j=some (row asr c2 e2 sz n2 xs2)) (ht:T.get t=some ti) (hti:ti.desc = .slice e) (he:T.get e=some ie) (hsz:Nat.beq ie.size sz=true) (hpos:Nat.blt 0 sz=true) (hzl:Nat.beq ie.zero.length sz=true)
  (hn:Nat.blt d n.m=true) (hm:m≤n2) (h1:∀ u∈xs2,u.oneCell'=true) (hbytes:(len+m)*ie.bytes≤140737488355328) (hmax:len+m≤maxLen) :
  Eff P n w0 M H E (some d) (.call { callee:=.builtin .append,args:=#[s,x],argTypes:=#[t,t] }) ty (fun (z:Option Addr×Nat)=>len+m≤z.2) (fun z=>(d,.slice z.1 (len+m) z.2)::E) (fun z=>row z.1 z.2 e sz (len+m) (xs++xs2.take (m*sz))::H'):=
 ⟨fun _ _ _ _ _ w hw h=>xl_append_row T hw hs hx hp hp2 ht hti he hsz hpos hzl hn hm h1 hbytes hmax (fun a c w' hw' h1=>h (a,c) w' h1 hw')⟩
theorem eff_call {α:Type} (is:List Nat) {f:FuncId} {vs:List Value} {A B R:List Chunk} {val:α→Value} {out:α→List Chunk} {Φ:α→Prop} {args:Array Operand} {ts:Array TypeId} (hs:FnC P f vs A B val out Φ)
  (ha:E.evs args.toList=some vs) (hp:picks is H=some (A,R)) (hl:LendsAll R B) (ho:∀ x,allW (out x)=true) (hn:Nat.blt d n.m=true) :
  Eff P n w0 M H E (some d) (.call { callee:=.value (.func f),args:=args,argTypes:=ts }) ty Φ (fun z=>(d,val z)::E) (fun z=>out z++R):=
 ⟨fun _ _ _ _ _ w hw h=>xl_call is hs hw ha hp hl ho hn (fun z w' hw' hz=>h z w' hz hw')⟩
end
theorem w_call {α:Type} (is:List Nat) {f:FuncId} {vs:List Value} {A B R:List Chunk} {val:α→Value} {out:α→List Chunk} {Φ:α→Prop} {args:Array Operand} {ts:Array TypeId} (hs:FnC P f vs A B val out Φ)
  (ha:E.evs args.toList=some vs) (hp:picks is H=some (A,R)) (hl:LendsAll R B) (ho:∀ x,allW (out x)=true) (hn:Nat.blt d n.m=true) (h:∀ z,Φ z→Wd w0 M (out z++R) (XR P l n Q ((d,val z)::E) L)) :
  Wd w0 M H (XR P l n Q E (⟨some d,.call { callee:=.value (.func f),args:=args,argTypes:=ts },ty,pos,after,none⟩::L)):=w_eff (eff_call is hs ha hp hl ho hn) h
theorem lend_cons {c:Chunk} {R B:List Chunk} {k:Nat} (hwr:c.wr=false) (hp:nthC R k=some c) (h:LendsAll R B):LendsAll R (c::B):=⟨⟨hwr,fun k hk=>⟨c,nthC_mem hp,hk⟩,fun w hw=>hw c (nthC_mem hp)⟩,h⟩
theorem w_loop {α:Type} {c:Code} (Ev:α→Env) (Hv:α→List Chunk) (φ:α→Prop) (μ:α→Nat) (x0:α) (hE:EnvSub E (Ev x0)) (hH:H=Hv x0) (hφ:φ x0)
  (round:∀ x,φ x→∀ K:Act→World→Prop,(∀ y E',φ y→μ y<μ x→EnvSub E' (Ev y)→Wd w0 M (Hv y) (fun w=>∀ a,EnvOk a E' n→K a w))→Wd w0 M (Hv x) (XC P n (Exit.then K Q) (Ev x) c)):Wd w0 M H (XC P n Q E (.loop c)):=
 fun w hw=>xc_loop Ev Hv φ μ x0 hw hE hH hφ (fun x w hx hw K hK=>round x hx K (fun y E' hy hlt hs w' hw' a ha=>hK y E' w' hy hlt hw' hs a ha) w hw)
theorem w_round {α:Type} {K:Act→World→Prop} {Ev:α→Env} {Hv:α→List Chunk} {φ:α→Prop} {μ:α→Nat} {x:α} (hK:∀ y E',φ y→μ y<μ x→EnvSub E' (Ev y)→Wd w0 M (Hv y) (fun w=>∀ a,EnvOk a E' n→K a w))
  (y:α) (hφ:φ y) (hμ:μ y<μ x) (hH:H=Hv y) (hE:EnvSub E (Ev y)):Wd w0 M H (XQ n (Exit.then K Q) .normal E):=by
 subst hH;exact fun w hw=>⟨fun q a ha=>hK y E hφ hμ hE w hw a ha⟩
section
variable {Hk Hs:List Chunk} {S:World→Prop} {ls ord:List Nat} {fuel i:Nat} {listed:Array Bool} {g:Option (Nat×Bool)}
theorem w_draw (hm:P.follows .mixedOrders=true) (ord ls places:List Nat) {id:Nat} (hd:noDef l=true) (hs:nthsC H places=some Hs) (h:WS w0 M H Hs (XO P l n Q (SC Hs) ls E ord l.toArray.size (Array.replicate l.toArray.size false))) :
  Wd w0 M H (XC P n Q E (.region id l.toArray true)):=fun w hw=>xc_drawn hm ls places hd hw hs (fun w' hw' hs'=>(h w' hw' hs').run)
theorem wa_g {op:Op} {v:Value} (hi:nthO l i=some ⟨some d,op,ty,pos,after,g⟩) (hg:guardYes l E g=true) (hv:Gives P n E op ty v) (hn:Nat.blt d n.m=true) (hc:chk l.toArray listed i=true)
  (h:WS w0 M H Hk (XO P l n Q S ls ((d,v)::E) ord fuel (listed.setIfInBounds i true))):WS w0 M H Hk (XO P l n Q S ls E (i::ord) (fuel+1) listed):=fun w hw hs=>⟨xa_g i hi hg hv hn hc ((h w hw hs).run)⟩
theorem wa_skip {oi:Oper} (hi:nthO l i=some oi) (hg:guardNo l E oi.guard=true) (hd:oi.dst=some d) (hn:Nat.blt d n.m=true) (hc:chk l.toArray listed i=true)
  (h:WS w0 M H Hk (XO P l n Q S ls ((d,undef)::E) ord fuel (listed.setIfInBounds i true))):WS w0 M H Hk (XO P l n Q S ls E (i::ord) (fuel+1) listed):=fun w hw hs=>⟨xa_skip i hi hg hd hn hc ((h w hw hs).run)⟩
theorem wa_ld {op:Op} {v:Value} (hi:nthO l i=some ⟨some d,op,ty,pos,after,g⟩) (hg:guardYes l E g=true) (hv:Lds P n Hs E op ty v) (hn:Nat.blt d n.m=true) (hc:chk l.toArray listed i=true) (hl:ls.contains i=true)
  (h:WS w0 M H Hs (XO P l n Q (SC Hs) ls ((d,v)::E) ord fuel (listed.setIfInBounds i true))):WS w0 M H Hs (XO P l n Q (SC Hs) ls E (i::ord) (fuel+1) listed):=fun w hw hs=>
 ⟨xa_take hi hc rfl hn (S':=SC Hs) (.inr ⟨rfl,by simpa using hl⟩) hs (fun a ha=>.inl ⟨wanted_yes hg ha,fun w' hw'=>hv.run _ _ _ _ a ha w' hw'⟩) ((h w hw hs).run)⟩
theorem wa_gq {op:Op} {v:Value} (hi:nthO l i=some ⟨some d,op,ty,pos,after,g⟩) (hr:(Region.ready .any l.toArray listed == [i])=true) (hg:guardYes l E g=true) (hv:Gives P n E op ty v) (hn:Nat.blt d n.m=true) (hq':quietI l.toArray i=true)
  (h:WS w0 M H Hk (XO P l n Q S ls ((d,v)::E) ord fuel (listed.setIfInBounds i true))):WS w0 M H Hk (XO P l n Q S ls E (i::ord) (fuel+1) listed):=fun w hw hs=>
 ⟨xa_eff i hi hr (fun K hK ops ho=>xl_yes ho hg (xl_g hv hn (xl_nil (xq_any hK (owed_quiet hq') ((h w hw hs).run)))))⟩
theorem wa_ldq {op:Op} {v:Value} (hi:nthO l i=some ⟨some d,op,ty,pos,after,g⟩) (hr:(Region.ready .any l.toArray listed == [i])=true) (hg:guardYes l E g=true) (hv:Lds P n H E op ty v) (hn:Nat.blt d n.m=true) (hq':quietI l.toArray i=true)
  (h:WS w0 M H Hk (XO P l n Q S ls ((d,v)::E) ord fuel (listed.setIfInBounds i true))):WS w0 M H Hk (XO P l n Q S ls E (i::ord) (fuel+1) listed):=fun w hw hs=>
 ⟨xa_eff i hi hr (fun K hK ops ho=>xl_yes ho hg (xl_step rfl rfl hn (fun a ha=>hv.run _ _ _ _ a ha w hw.sc) (xl_nil (xq_any hK (owed_quiet hq') ((h w hw hs).run)))))⟩
def Sub (Hs H:List Chunk):Prop:=∀ w,SC H w→SC Hs w
theorem sub_nil:Sub [] H:=fun _ _=>sc_nil
theorem sub_cons {c:Chunk} {k:Nat} (hp:nthC H k=some c) (h:Sub Hs H):Sub (c::Hs) H:=fun w hw x hx=>by
 rcases List.mem_cons.1 hx with rfl | hx
 ·exact hw.nth hp
 ·exact h w hw x hx
theorem wa_eff {α:Type} {dst:Option Tmp} {op:Op} {φ:α→Prop} {E':α→Env} {Hn:α→List Chunk} (hi:nthO l i=some ⟨dst,op,ty,pos,after,g⟩) (hr:(Region.ready .any l.toArray listed == [i])=true) (hg:guardYes l E g=true) (he:Eff P n w0 M H E dst op ty φ E' Hn) (hq':quietI l.toArray i=false) (hk:∀ z,Sub Hs (Hn z))
  (h:∀ z,φ z→WS w0 M (Hn z) Hs (XO P l n Q (SC Hs) ls (E' z) ord fuel (listed.setIfInBounds i true))):WS w0 M H Hk (XO P l n Q (SC Hs) ls E (i::ord) (fuel+1) listed):=fun w hw hs=>
 ⟨xa_eff i hi hr (fun K hK ops ho=>xl_yes ho hg (he.run _ _ _ _ _ w hw (fun z w' hz hw'=>xl_nil (xq_any hK (owed_some hq' (hk z w' hw'.sc)) ((h z hz w' hw' (hk z w' hw'.sc)).run)))))⟩
theorem wa_effd {α:Type} {dst:Option Tmp} {op:Op} {φ:α→Prop} {E':α→Env} {Hn:α→List Chunk} (hi:nthO l i=some ⟨dst,op,ty,pos,after,g⟩) (hr:(Region.ready .any l.toArray listed == [i])=true) (hg:guardYes l E g=true) (he:Eff P n w0 M H E dst op ty φ E' Hn) (hq':quietI l.toArray i=false) (hk:keepS l.toArray ls i=false)
  (h:∀ z,φ z→WS w0 M (Hn z) [] (XO P l n Q S ls (E' z) ord fuel (listed.setIfInBounds i true))):WS w0 M H Hk (XO P l n Q S ls E (i::ord) (fuel+1) listed):=fun w hw hs=>
 ⟨xa_eff i hi hr (fun K hK ops ho=>xl_yes ho hg (he.run _ _ _ _ _ w hw (fun z w' hz hw'=>xl_nil (xq_any hK (owed_none hq' hk) ((h z hz w' hw' sc_nil).run)))))⟩
theorem wa_effd0 {dst:Option Tmp} {op:Op} {E':Env} (hi:nthO l i=some ⟨dst,op,ty,pos,after,g⟩) (hr:(Region.ready .any l.toArray listed == [i])=true) (hg:guardYes l E g=true) (he:Eff (α:=Unit) P n w0 M H E dst op ty (fun _=>True) (fun _=>E') (fun _=>H')) (hq':quietI l.toArray i=false) (hk:keepS l.toArray ls i=false)
  (h:WS w0 M H' [] (XO P l n Q S ls E' ord fuel (listed.setIfInBounds i true))):WS w0 M H Hk (XO P l n Q S ls E (i::ord) (fuel+1) listed):=wa_effd hi hr hg he hq' hk (fun _ _=>h)
theorem wa_eff0 {dst:Option Tmp} {op:Op} {E':Env} (hi:nthO l i=some ⟨dst,op,ty,pos,after,g⟩) (hr:(Region.ready .any l.toArray listed == [i])=true) (hg:guardYes l E g=true) (he:Eff (α:=Unit) P n w0 M H E dst op ty (fun _=>True) (fun _=>E') (fun _=>H')) (hq':quietI l.toArray i=false) (hk:Sub Hs H')
  (h:WS w0 M H' Hs (XO P l n Q (SC Hs) ls E' ord fuel (listed.setIfInBounds i true))):WS w0 M H Hk (XO P l n Q (SC Hs) ls E (i::ord) (fuel+1) listed):=wa_eff hi hr hg he hq' (fun _=>hk) (fun _ _=>h)
theorem wa_done (hr:(Region.ready .any l.toArray listed == [])=true) (h:Wd w0 M H (XQ n Q .normal E)):WS w0 M H Hk (XO P l n Q S ls E [] fuel listed):=fun w hw _=>⟨xa_done hr (h w hw)⟩
theorem wa_use {p:Prop} (hp:∀ w,St w0 M w H→p) (h:p→WS w0 M H Hk G):WS w0 M H Hk G:=fun w hw=>h (hp w hw) w hw
theorem wa_eskip {dst:Option Tmp} {op:Op} (hi:nthO l i=some ⟨dst,op,ty,pos,after,g⟩) (hr:(Region.ready .any l.toArray listed == [i])=true) (hg:guardNo l E g=true) (hd:dst=some d) (hn:Nat.blt d n.m=true) (hq':quietI l.toArray i=false)
  (h:WS w0 M H Hs (XO P l n Q (SC Hs) ls ((d,undef)::E) ord fuel (listed.setIfInBounds i true))):WS w0 M H Hs (XO P l n Q (SC Hs) ls E (i::ord) (fuel+1) listed):=fun w hw hs=>
 ⟨xa_eff i hi hr (fun K hK ops ho=>⟨fun q a ha=>wpList_skip (by have:=wanted_no (o:=⟨dst,op,ty,pos,after,g⟩) hg ha;rw [← ho] at this;simpa using this) (by subst hd;exact (xl_nil (xq_any hK (owed_some hq' hs) ((h w hw hs).run))).run q _ (ha.put hn))⟩)⟩
end
end
end
section
set_option maxRecDepth 512
section
variable {P:Program} {T:Tab P} {n:Cx} {Q:Exit→Act→World→Prop} {E:Env} {w0:World} {M:Nat→Prop} {H H':List Chunk} {l L:List Oper}
 {d:Nat} {ty:TypeId} {pos:String} {after:Array Edge} {G:World→Prop} {C:List Chunk}
theorem loadVar_of {t:TypeId} {x:Operand} {v:Value} {w:World} {a:Act} (h:(execOp a.eval ⟨none,.load t x,ty, "",#[],none⟩).run P w = .ok (.value v) w):∃ ad,a.eval x = .pointer (some ad)∧(loadVar t ad).run P w = .ok v w:=by
 simp only [execOp,Instr.loadAt,Sem.run_bind] at h;cases hx:a.eval x with
 | pointer p=>
  cases p with
  | none=>simp [hx,Instr.sureAddr] at h
  | some ad=>
   refine ⟨ad,rfl,?_⟩;rw [hx] at h;simp only [Instr.sureAddr,Sem.run_pure,Result.andThen_ok] at h;cases hr:(loadVar t ad).run P w with
   | ok u w'=>
    rw [hr] at h;simp only [Result.andThen_ok,Result.ok.injEq,Next.value.injEq] at h;rw [h.1,h.2]
   | halt u w'=>rw [hr] at h;simp at h
 | _=>simp [hx,Instr.sureAddr] at h
inductive ResOk (P:Program) (n:Cx) (C:List Chunk) (E:Env):List ResultVar→List Value→Prop
 | nil:ResOk P n C E [] []
 | tmp {t:Tmp} {v:Value} {rs:List ResultVar} {vs:List Value} (hv:E.get t=some v) (h:ResOk P n C E rs vs):ResOk P n C E (.tmp t::rs) (v::vs)
 | cell {t:Tmp} {ty:TypeId} {v:Value} {rs:List ResultVar} {vs:List Value} (hv:Lds P n C E (.load ty (.tmp t)) ty v) (h:ResOk P n C E rs vs):ResOk P n C E (.cell t ty::rs) (v::vs)
def packR:List Value→Value
 | [v]=>v
 | vs=>.tuple vs.toArray
def resF (tmps:Array Value):ResultVar→Sem Value
 | .tmp t=>pure (tmps.getD t undef)
 | .cell x t=>do loadVar t (← asAddr (tmps.getD x undef))
theorem results_eq (fn:Func) (tmps:Array Value):results fn tmps=(do let vs ← fn.results.mapM (resF tmps);pure (if h:vs.size=1 then vs[0] else .tuple vs)):=rfl
theorem res_run {rs:List ResultVar} {vs:List Value} (h:ResOk P n C E rs vs) {a:Act} (ha:EnvOk a E n) {w:World} (hw:SC C w) :
  (rs.mapM (resF a.tmps)).run P w = .ok vs w:=by
 induction h with
 | nil=>simp
 | tmp hv h ih=>
  simp only [List.mapM_cons,resF,Sem.run_bind,Sem.run_pure,Result.andThen_ok,ih];rw [Array.getD_eq_getD_getElem?,ha.get _ _ hv];rfl
 | cell hv h ih=>
  rename_i t ty v rs vs;obtain ⟨ad,hx,hl⟩:=loadVar_of (hv.run none "" #[] none a ha w hw);have hx':a.tmps.getD t undef = .pointer (some ad):=hx;have hz:(asAddr (.pointer (some ad))).run P w = .ok ad w:=rfl;simp only [List.mapM_cons,resF,Sem.run_bind,hx',hz,Sem.run_pure,Result.andThen_ok,hl,ih]
theorem res_results {fn:Func} {rs:List ResultVar} {vs:List Value} (hf:fn.results=rs.toArray) (h:ResOk P n C E rs vs) {a:Act} (ha:EnvOk a E n) {w:World} (hw:SC C w):(results fn a.tmps).run P w = .ok (packR vs) w:=by
 have hr:=res_run h ha hw;rw [results_eq,Sem.run_bind,hf,Array.mapM_eq_mapM_toList,Sem.run_map,hr];simp only [Result.andThen_ok]
 match vs with
 | []=>rfl
 | [v]=>rfl
 | v::u::vs=>simp [packR]
theorem w_endr {α:Type} {A R:List Chunk} {val:α→Value} {out:α→List Chunk} {Φ:α→Prop} {fn:Func} {e:Exit} {rs:List ResultVar} {vs:List Value} (x:α) (is:List Nat) (hds:n.ds=[]) (he:e = .ret∨e = .normal) (hf:fn.results=rs.toArray) (hr:ResOk P n H E rs vs) (hv:packR vs=val x) (hp:picks is H=some (out x,R)) (hx:Φ x) :
  Wd w0 (ownsW A) H (XQ n (bodyPost P fn (Ret w0 A val out Φ)) e E):=fun w hw=>
 xq_ret hds he (fun a ha=>res_results hf hr ha hw.sc) ⟨x,by rw [hv],hw.sub is hp,hx⟩
theorem eff_callv {α:Type} (is:List Nat) {f:FuncId} {vs:List Value} {first cap:Array Value} {fo:Operand} {A B R:List Chunk} {val:α→Value} {out:α→List Chunk} {Φ:α→Prop} {args:Array Operand} {ts:Array TypeId} {full:List Value} (hs:FnC P f full A B val out Φ)
  (hf:E.ev fo=some (.func (.func f) first cap)) (ha:E.evs args.toList=some vs) (hfull:first.toList++vs++cap.toList=full) (hp:picks is H=some (A,R)) (hl:LendsAll R B) (ho:∀ x,allW (out x)=true) (hn:Nat.blt d n.m=true) :
  Eff P n w0 M H E (some d) (.call { callee:=.value fo,args:=args,argTypes:=ts }) ty Φ (fun z=>(d,val z)::E) (fun z=>out z++R):=
 ⟨fun pos after ops Q L w hw h=>by
  refine ⟨fun q act hact=>?_⟩;refine wpList_plain rfl fun K hK=>?_
  obtain ⟨fn,c,hfn,hbody,hname⟩:=hs.called;have hname':¬ fn.name = "runtime.NumGoroutine" := by simpa using hname
  have hargs:args.map act.eval=vs.toArray:=by
   apply Array.ext';rw [Array.toList_map]
   simpa using hact.evals ha
  have hfull':first++vs.toArray++cap=full.toArray:=by
   apply Array.ext'
   simpa using hfull
  have hrun:(execOp act.eval ⟨some d,.call { callee:=.value fo,args:=args,argTypes:=ts },ty,pos,after,none⟩).run P w = .ok (.enter f full.toArray) w:=by
   simp only [execOp,resolve,hact.eval hf,Deferred.ofValue,Sem.run_bind,Sem.run_pure,Result.andThen_ok,invoke,callFunc,program,Sem.run,hfn,hbody,hargs];simp [hname',hfull']
  unfold Oper.wp;rw [hrun,Oper.upon_enter];refine (hw.calls hs hp hl ho).mono fun e w' hret=>?_
  obtain ⟨z,rfl,hst,hphi⟩:=hret;exact hK _ _ ((h z w' hphi hst).run q _ (hact.put hn))⟩
end
end
section
set_option maxRecDepth 512
theorem run_storeCells_fro (P:Program) (g o:Nat) (t:TypeId) (fz:Nat×Nat):∀ (vs:List Value) (i:Nat) (cur:Array Value) (w:World),w.heap[g]? = some (.cells cur t fz)→cur.size≤fz.1→o+i+vs.length≤cur.size→(∀ v∈vs,v.oneCell'=true) →
  (storeCells ⟨g,o,none⟩ vs i).run P w = .ok () (w.setRow g (cur.toList.take (o+i)++vs++cur.toList.drop (o+i+vs.length)).toArray)
 | [],i,cur,w,hg,_,_,_=>by
  simp only [storeCells,List.append_nil,List.length_nil,Nat.add_zero,List.take_append_drop,Array.toArray_toList];rw [setRow_self w g cur t fz hg];rfl
 | v::rest,i,cur,w,hg,hfz,hl,h1=>by
  have hi:o+i<cur.size:=by simp at hl;omega
  have hadd:(⟨g,o,none⟩:Addr).add i=⟨g,o+i,none⟩:=by unfold Addr.add;split <;> simp_all
  have hcell:w.cell? ⟨g,o+i,none⟩=some cur[o+i]:=by simp [World.cell?,hg,hi]
  have hfro:w.frozen? ⟨g,o+i,none⟩=false:=by
   obtain ⟨lo,hi'⟩:=fz;simp only [World.frozen?,hg,Bool.and_eq_false_iff,decide_eq_false_iff_not];left;simp only at hfz;omega
  have hst:(store ((⟨g,o,none⟩:Addr).add i) v).run P w = .ok () (w.setRow g (cur.setIfInBounds (o+i) v)):=by
   rw [hadd,run_store P w _ v _ (h1 v (by simp)),hcell];simp [hfro,setCell_eq_setRow w g (o+i) cur t fz v hg]
  have ih:=run_storeCells_fro P g o t fz rest (i+1) (cur.setIfInBounds (o+i) v) (w.setRow g (cur.setIfInBounds (o+i) v)) (setRow_heap w g cur _ t _ hg) (by simp;omega) (by simp at hl ⊢;omega) (fun x hx=>h1 x (by simp [hx]));simp only [storeCells,Sem.run_bind,hst,Result.andThen_ok,ih,setRow_setRow]
  congr 3
  have e:=list_seg_step cur.toList (o+i) v rest (by simp at hl ⊢;omega)
  simpa [Array.toList_setIfInBounds,Nat.add_assoc] using e
def bytC (s:ByteArray):List Value:=s.data.toList.map fun b=>.int .u8 (b.toNat:Int)
section
variable {P:Program} {T:Tab P} {n:Cx} {Q:Exit→Act→World→Prop} {E:Env} {w0:World} {M:Nat→Prop} {H H':List Chunk} {l L:List Oper}
 {d:Nat} {ty:TypeId} {pos:String} {after:Array Edge} {G:World→Prop} {C:List Chunk}
theorem fro_cell {w:World} {b:Nat} {cs:List Value} {t:TypeId} (h:(fro b cs t).ok w) (o:Nat):w.cell? ⟨b,o,none⟩=cs[o]? := by
 have h':w.heap[b]? = some (.cells cs.toArray t (cs.length,cs.length+1)):=h;rw [cell_of_row w b o _ t _ h'];simp
theorem ld_f (T:Tab P) {i:Nat} {x:Operand} {t tb:TypeId} {ti:TyI} {b o:Nat} {cs:List Value} {v:Value} (hx:E.ev x=some (.pointer (some ⟨b,o,none⟩))) (hp:nthC C i=some (fro b cs tb)) (ht:T.get t=some ti) (hi:isAggD ti.desc=false) (hv:cs[o]? = some v):Lds P n C E (.load t x) ty v:=
 .mk <| fun _ _ _ _ a ha w hw=>run_load_cell' T rfl (ha.eval hx) ht hi (by rw [fro_cell (hw.nth hp),hv])
theorem eff_storef {i:Nat} (T:Tab P) {x y:Operand} {t tb:TypeId} {ti:TyI} {b o:Nat} {cs:List Value} {v:Value} (hx:E.ev x=some (.pointer (some ⟨b,o,none⟩))) (hp:Sx.pick H i=some (fro b cs tb,H')) (hy:E.ev y=some v) (hv:cellsO v=some [v]) (h1:oneC [v]=true)
  (ht:T.get t=some ti) (hz:Nat.beq 1 ti.size=true) (ho:o<cs.length):Eff (α:=Unit) P n w0 M H E none (.store t x y) ty (fun _=>True) (fun _=>E) (fun _=>fro b (cs.set o v) tb::H'):=
 ⟨fun _ _ _ _ _ w hw h=>xl_step_u rfl rfl (fun act ha=>by
  obtain ⟨tinf,z,g1,g2,_,_,_⟩:=T.inf ht;have hw':=hw.pick i hp;have hb:w.heap[b]? = some (.cells cs.toArray tb (cs.length,cs.length+1)):=hw'.head;have hz':1=tinf.size:=by rw [g2];exact Nat.eq_of_beq_eq_true hz
  have hst:=run_storeCells_fro P b o tb _ [v] 0 cs.toArray w hb (by simp) (by simp;omega) (oneC_eq h1);have hc:=cellsO_eq hv
  have hset:cs.take o++[v]++cs.drop (o+1)=cs.set o v:=by
   rw [List.set_eq_take_append_cons_drop,if_pos ho];simp
  refine ⟨w.setRow b (cs.set o v).toArray,?_,h () _ trivial (hw'.turn rfl (Turns.setRow w b _) ?_ (fun k hk=>.inl hk))⟩
  ·simp only [execOp,ha.eval hx,ha.eval hy,Instr.storeAt,Instr.sureAddr,Sem.run_bind,Sem.run_pure,Result.andThen_ok,storeVar,sizeOf,typeInfo,program,Sem.run,g1,hc];rw [if_neg (by simp;omega)];simp only [Nat.add_zero,List.length_singleton] at hst;rw [hst];simp only [Result.andThen_ok,hset]
  ·have:=setRow_heap w b cs.toArray (cs.set o v).toArray tb _ hb;show (w.setRow b (cs.set o v).toArray).heap[b]? = _
   rw [this];simp)⟩
theorem eff_bytes (T:Tab P) {x:Operand} {src dst e:TypeId} {si di ei:TyI} {s:ByteArray} (hx:E.ev x=some (.string s)) (hs:T.get src=some si) (hsd:si.desc = .string) (hd:T.get dst=some di) (hdd:di.desc = .slice e) (he:T.get e=some ei) (hed:ei.desc = .int .u8) (hn:Nat.blt d n.m=true) :
  Eff P n w0 M H E (some d) (.convert src dst x) ty (fun (z:Nat×Nat)=>s.size≤z.2∧(s.size≤maxLen→z.2≤maxLen)) (fun z=>(d,.slice (some ⟨z.1,0,none⟩) s.size z.2)::E) (fun z=>fro z.1 (bytC s++List.replicate (z.2-s.size) (.int .u8 0)) e::H):=
 ⟨fun _ _ _ _ _ w hw h=>xl_step_w rfl rfl hn (fun act ha=>by
  have hu1:=T.und hs;rw [hsd] at hu1;have hu2:=T.und hd;rw [hdd] at hu2;have hu3:=T.und he;rw [hed] at hu3;have hrun:=run_bytes_of_string (P:=P) w src dst e s hu1 hu2 hu3;have hcap:=grownCap_ge w s.size 0 e;have hmax:=grownCap_le_maxLen w s.size 0 e
  have hrow:∀ c,bytesRow s c=(bytC s++List.replicate (c-s.size) (Value.int .u8 0)).toArray:=fun c=>by
   apply Array.ext';simp [bytesRow,bytC]
  rw [hrow] at hrun;generalize grownCap w s.size 0 e=c at hrun hcap hmax;refine ⟨_,w.drew.alloc (.cells (bytC s++List.replicate (c-s.size) (Value.int .u8 0)).toArray e ((bytC s++List.replicate (c-s.size) (Value.int .u8 0)).toArray.size,(bytC s++List.replicate (c-s.size) (Value.int .u8 0)).toArray.size+1)),?_,h (w.heap.size,c) _ ⟨hcap,hmax⟩ ?_⟩
  ·simp only [execOp,ha.eval hx,Sem.run_bind,hrun,Result.andThen_ok,Sem.run_pure]
  ·refine hw.new ((Turns.drew _ w).trans (Turns.alloc _ w.drew _)) ?_ (fun k hk=>?_)
   ·have:=heap_alloc_new w.drew (.cells (bytC s++List.replicate (c-s.size) (Value.int .u8 0)).toArray e ((bytC s++List.replicate (c-s.size) (Value.int .u8 0)).toArray.size,(bytC s++List.replicate (c-s.size) (Value.int .u8 0)).toArray.size+1));simp only [List.size_toArray] at this ⊢;exact this
   ·have hk':k=w.heap.size:=hk;subst hk';exact ⟨Nat.le_refl _,by show w.heap.size<(w.heap.push _).size;simp⟩)⟩
theorem run_str {a:Act} {w:World} {x:Operand} {src dst e:TypeId} {si di ei:TyI} (T:Tab P) {ad:Addr} {len cap:Nat} {s:ByteArray} {o:Oper} (ho:o.op = .convert src dst x) (hx:a.eval x = .slice (some ad) len cap) (hs:T.get src=some si) (hsd:si.desc = .slice e) (he:T.get e=some ei) (hed:ei.desc = .int .u8) (hd:T.get dst=some di) (hdd:di.desc = .string)
  (hl:len=s.size) (hc:∀ j v,(bytC s)[j]? = some v→w.cell? (ad.add j)=some v):(execOp a.eval o).run P w = .ok (.value (.string s)) w:=by
 have hu1:=T.und hs;rw [hsd] at hu1;have hu2:=T.und hd;rw [hdd] at hu2;have hu3:=T.und he;rw [hed] at hu3;have hlen:s.data.toList.length=s.size:=by simp
 have hrun:=run_convert_bytes_back (P:=P) w src dst e ad cap s.data.toList hu1 hu3 hu2 (fun j hj=>by
  refine hc j _ ?_;simp only [bytC,List.getElem?_map,List.getElem?_eq_getElem hj,Option.map_some])
 subst hl;rw [hlen] at hrun;simp only [execOp,ho,hx,Sem.run_bind,hrun,Result.andThen_ok,Sem.run_pure]
theorem ld_strf (T:Tab P) {i:Nat} {x:Operand} {src dst e tb:TypeId} {si di ei:TyI} {b len cap:Nat} {cs rest:List Value} {s:ByteArray} (hx:E.ev x=some (.slice (some ⟨b,0,none⟩) len cap)) (hp:nthC C i=some (fro b cs tb)) (hs:T.get src=some si) (hsd:si.desc = .slice e) (he:T.get e=some ei) (hed:ei.desc = .int .u8) (hd:T.get dst=some di) (hdd:di.desc = .string)
  (hcs:cs=bytC s++rest) (hl:len=s.size):Lds P n C E (.convert src dst x) ty (.string s):=
 .mk <| fun _ _ _ _ a ha w hw=>run_str T rfl (ha.eval hx) hs hsd he hed hd hdd hl (fun j v hj=>by
  rw [addr_add,Nat.zero_add,fro_cell (hw.nth hp),hcs];rw [List.getElem?_append_left (List.getElem?_eq_some_iff.1 hj).1,hj])
theorem ld_strr (T:Tab P) {i:Nat} {x:Operand} {src dst e tb:TypeId} {si di ei:TyI} {g sz m len cap cap':Nat} {xs rest:List Value} {s:ByteArray} (hx:E.ev x=some (.slice (some ⟨g,0,none⟩) len cap)) (hp:nthC C i=some (row (some ⟨g,0,none⟩) cap' tb sz m xs)) (hs:T.get src=some si) (hsd:si.desc = .slice e) (he:T.get e=some ei) (hed:ei.desc = .int .u8) (hd:T.get dst=some di) (hdd:di.desc = .string)
  (hcs:xs=bytC s++rest) (hl:len=s.size):Lds P n C E (.convert src dst x) ty (.string s):=
 .mk <| fun _ _ _ _ a ha w hw=>run_str T rfl (ha.eval hx) hs hsd he hed hd hdd hl (fun j v hj=>by
  rw [addr_add,Nat.zero_add];refine row_cell (hw.nth hp) j v ?_;rw [hcs,List.getElem?_append_left (List.getElem?_eq_some_iff.1 hj).1,hj])
theorem ld_strb (T:Tab P) {i:Nat} {x:Operand} {src dst e tb:TypeId} {si di ei:TyI} {b len cap:Nat} {cs rest:List Value} {s:ByteArray} (hx:E.ev x=some (.slice (some ⟨b,0,none⟩) len cap)) (hp:nthC C i=some (blk b cs tb)) (hs:T.get src=some si) (hsd:si.desc = .slice e) (he:T.get e=some ei) (hed:ei.desc = .int .u8) (hd:T.get dst=some di) (hdd:di.desc = .string)
  (hcs:cs=bytC s++rest) (hl:len=s.size):Lds P n C E (.convert src dst x) ty (.string s):=
 .mk <| fun _ _ _ _ a ha w hw=>run_str T rfl (ha.eval hx) hs hsd he hed hd hdd hl (fun j v hj=>by
  rw [addr_add,Nat.zero_add,blk_cell (hw.nth hp),hcs];rw [List.getElem?_append_left (List.getElem?_eq_some_iff.1 hj).1,hj])
theorem g_strnil (T:Tab P) {x:Operand} {src dst e:TypeId} {si di ei:TyI} {len cap:Nat} (hx:E.ev x=some (.slice none len cap)) (hs:T.get src=some si) (hsd:si.desc = .slice e) (he:T.get e=some ei) (hed:ei.desc = .int .u8) (hd:T.get dst=some di) (hdd:di.desc = .string):Gives P n E (.convert src dst x) ty (.string .empty):=
 .mk <| fun _ _ _ _ a ha w=>by
  have hu1:=T.und hs;rw [hsd] at hu1;have hu2:=T.und hd;rw [hdd] at hu2;have hu3:=T.und he;rw [hed] at hu3;simp [execOp,ha.eval hx,run_convert_bytes_string w src dst e none len cap hu1 hu3 hu2,Conv.bytesToString]
end
end
section
set_option maxRecDepth 512
section
variable {P:Program} {T:Tab P} {n:Cx} {Q:Exit→Act→World→Prop} {E:Env} {w0:World} {M:Nat→Prop} {H H':List Chunk} {l L:List Oper}
 {d:Nat} {ty:TypeId} {pos:String} {after:Array Edge} {G:World→Prop} {C:List Chunk}
theorem g_call {f:FuncId} {args:Array Operand} {ts:Array TypeId} {vs:List Value} {v:Value} (ha:E.evs args.toList=some vs) (hr:∀ w,(callFunc f vs.toArray).run P w = .ok (.value v) w):Gives P n E (.call { callee:=.value (.func f),args:=args,argTypes:=ts }) ty v:=
 .mk <| fun _ _ _ _ a hact w=>by
  have hargs:args.map a.eval=vs.toArray:=by
   apply Array.ext';rw [Array.toList_map]
   simpa using hact.evals ha
  have:=hr w;simp only [execOp,resolve,Act.eval,Deferred.ofValue,Sem.run_bind,Sem.run_pure,Result.andThen_ok,invoke,hargs] at this ⊢
  simpa using this
theorem g_conv (T:Tab P) {x:Operand} {src dst:TypeId} {si di:TyI} {k k':IntKind} {a:Int} (hx:E.ev x=some (.int k a)) (hs:T.get src=some si) (hd:T.get dst=some di) (hdd:di.desc = .int k') (hin:inK k' a):Gives P n E (.convert src dst x) ty (.int k' a):=
 .mk <| fun _ _ _ _ act ha w=>by
  have hu1:=T.und hs;have hu2:=T.und hd;rw [hdd] at hu2;simp [execOp,ha.eval hx,convert,run_underlying hu1,run_underlying hu2,Conv.intToInt,wrap_in hin]
end
end
section
set_option maxRecDepth 512
section
variable {P:Program} {T:Tab P} {n:Cx} {Q:Exit→Act→World→Prop} {E:Env} {w0:World} {M:Nat→Prop} {H H':List Chunk} {l L:List Oper}
 {d:Nat} {ty:TypeId} {pos:String} {after:Array Edge} {G:World→Prop} {C:List Chunk}
def partV (T:Tab P) (cs:List Value) (t:TypeId) (off:Nat):Option (TypeDesc×Value):=match T.get t with
 | some fi=>(match nths cs off fi.size with
  | some vs=>(match packV (isAggD fi.desc) vs with
   | some v=>some (fi.desc,v)
   | none=>none)
  | none=>none)
 | none=>none
theorem partV_run {t:TypeId} {cs:List Value} {off:Nat} {dv:TypeDesc×Value} {w:World} (h:partV T cs t off=some dv):(part t cs.toArray off).run P w = .ok dv.2 w∧P.underlying t=some dv.1:=by
 unfold partV at h;split at h
 ·rename_i fi hfi;split at h
  ·rename_i vs hvs;split at h
   ·rename_i v hv;cases h;exact ⟨run_part hfi (by simpa using hvs) hv,T.und hfi⟩
   ·cases h
  ·cases h
 ·cases h
def eqS1:TypeDesc→Value→Value→Option Bool
 | .int _,.int k a,.int k' b=>if k=k' then some (a == b) else none
 | .string,.string a,.string b=>some (decide (a=b))
 | .bool,.bool a,.bool b=>some (a == b)
 | _,_,_=>none
theorem bytes_beq (a b:ByteArray):(a == b)=true↔a=b:=by
 show (a.data == b.data)=true↔a=b
 rw [beq_iff_eq];exact ⟨fun h=>ByteArray.ext h,fun h=>by rw [h]⟩
theorem eqS1_run {t:TypeId} {dd:TypeDesc} {u v:Value} {r:Bool} {w:World} (m:Nat) (hu:P.underlying t=some dd) (h:eqS1 dd u v=some r):(Op.equalIn (m+1) t u v).run P w = .ok r w:=by
 unfold eqS1 at h;unfold Op.equalIn;simp only [Sem.run_bind,run_underlying hu,Result.andThen_ok];split at h
 ·split at h
  ·rename_i hk;subst hk;cases h;simp
  ·cases h
 ·cases h;simp only [Sem.run_pure]
  congr 1
  rename_i a b;rw [Bool.eq_iff_iff,decide_eq_true_eq];exact bytes_beq a b
 ·cases h;simp
 ·cases h
def eqFs (T:Tab P) (xs ys:List Value):List Field→Option Bool
 | []=>some true
 | f::fs=>match partV T xs f.type f.offset,partV T ys f.type f.offset,eqFs T xs ys fs with
  | some u,some v,some r=>(match eqS1 u.1 u.2 v.2 with
   | some b=>some (b && r)
   | none=>none)
  | _,_,_=>none
theorem eqFs_run {xs ys:List Value} {k m:Nat} {w:World} (hk:k=m+1):∀ {fs:List Field} {r:Bool},eqFs T xs ys fs=some r→(fs.all fun f=>f.name != "_")=true →
  (do let s ← forIn (m:=Sem) fs ((none,()):Option Bool×Unit) (fun f r=>if f.name ≠ "_" then do
        if !(← Op.equalIn k f.type (← part f.type xs.toArray f.offset) (← part f.type ys.toArray f.offset)) then pure (ForInStep.done (some false,())) else pure (ForInStep.yield (none,()))
    else pure (ForInStep.yield (none,())));match s.1 with | some b=>pure b | none=>pure true:Sem Bool).run P w = .ok r w
 | [],r,h,_=>by
  simp only [eqFs,Option.some.injEq] at h;subst h;simp
 | f::fs,r,h,hn=>by
  simp only [eqFs] at h;simp only [List.all_cons,Bool.and_eq_true,bne_iff_ne,ne_eq] at hn;split at h
  ·rename_i u v r' hu hv hr;split at h
   ·rename_i b hb;cases h;obtain ⟨h1,h2⟩:=partV_run (w:=w) hu;obtain ⟨h3,h4⟩:=partV_run (w:=w) hv;have he:=eqS1_run (w:=w) m h2 hb;rw [← hk] at he;have ih:=eqFs_run (w:=w) hk hr hn.2;simp only [List.forIn_cons,ne_eq,hn.1,not_false_eq_true,if_true,Sem.run_bind,h1,h3,he,Result.andThen_ok];cases b with
    | true=>simpa [Sem.run_bind] using ih
    | false=>simp
   ·cases h
  ·cases h
theorem equal_struct {t:TypeId} {i:TyI} {fields:Array Field} {xs ys:List Value} {r:Bool} {w:World} (ht:T.get t=some i) (hd:i.desc = .struct fields) (hs:P.stoodInHeld t=false) (hnm:(fields.toList.all fun f=>f.name != "_")=true) (he:eqFs T xs ys fields.toList=some r) :
  (Op.equal t (.agg xs.toArray) (.agg ys.toArray)).run P w = .ok r w:=by
 have hu:=T.und ht;rw [hd] at hu;have key:=eqFs_run (w:=w) (k:=9999) (m:=9998) rfl he hnm;show (Op.equalIn (9999+1) t _ _).run P w=_
 unfold Op.equalIn;simp only [Sem.run_bind,run_underlying hu,Result.andThen_ok,program,Sem.run,hs,Bool.false_eq_true,if_false];rw [← key];simp only [Sem.run_bind,← Array.forIn_toList]
 congr 1
 funext a w'
 obtain ⟨x,u⟩:=a;cases x <;> rfl
def namedT (T:Tab P) (t:TypeId):Bool:=match T.get t with
 | some i=>(match i.desc with
  | .struct fields=>fields.toList.all fun f=>f.name != "_"
  | _=>false)
 | none=>false
def eqSV (T:Tab P) (t:TypeId) (u v:Value):Option Bool:=match u,v,T.get t with
 | .agg xs,.agg ys,some i=>(match i.desc with
  | .struct fields=>eqFs T xs.toList ys.toList fields.toList
  | _=>none)
 | _,_,_=>none
theorem eqSV_run {t:TypeId} {x y:Operand} {u v:Value} {r:Bool} {w:World} (hs:P.stoodInHeld t=false) (hg:P.eqGuardType P.depth t=false) (hnm:namedT T t=true) (h:eqSV T t u v=some r) :
  (do eqGuard .eql t x y u v;binOp .eql t u v:Sem Value).run P w = .ok (.bool r) w∧(do eqGuard .neq t x y u v;binOp .neq t u v:Sem Value).run P w = .ok (.bool !r) w:=by
 unfold eqSV at h;split at h
 ·rename_i xs ys i hi;split at h
  ·rename_i fields hd
   have he:(Op.equal t (.agg xs) (.agg ys)).run P w = .ok r w:=by
    have hnm':(fields.toList.all fun f=>f.name != "_")=true:=by
     unfold namedT at hnm;rw [hi] at hnm;simp only [hd] at hnm;exact hnm
    have:=equal_struct (w:=w) hi hd hs hnm' h
    simpa using this
   constructor <;> simp [eqGuard,program,Sem.run,Sem.run_bind,hg,binOp,he]
  ·cases h
 ·cases h
theorem g_eqS (T:Tab P) {x y:Operand} {t yt:TypeId} {u v:Value} {r:Bool} (hx:E.ev x=some u) (hy:E.ev y=some v) (hr:eqSV T t u v=some r) (hs:P.stoodInHeld t=false) (hg:P.eqGuardType P.depth t=false) (hnm:namedT T t=true):Gives P n E (.binOp .eql t x y yt) ty (.bool r):=
 .mk <| fun _ _ _ _ act ha w=>by
  have h1:=(eqSV_run (x:=x) (y:=y) (w:=w) hs hg hnm hr).1;simp only [execOp,ha.eval hx,ha.eval hy,Sem.run_bind] at h1 ⊢;simp [h1]
theorem g_neqS (T:Tab P) {x y:Operand} {t yt:TypeId} {u v:Value} {r:Bool} (hx:E.ev x=some u) (hy:E.ev y=some v) (hr:eqSV T t u v=some r) (hs:P.stoodInHeld t=false) (hg:P.eqGuardType P.depth t=false) (hnm:namedT T t=true):Gives P n E (.binOp .neq t x y yt) ty (.bool !r):=
 .mk <| fun _ _ _ _ act ha w=>by
  have h1:=(eqSV_run (x:=x) (y:=y) (w:=w) hs hg hnm hr).2;simp only [execOp,ha.eval hx,ha.eval hy,Sem.run_bind] at h1 ⊢;simp [h1]
end
end
section
set_option maxRecDepth 512
section
variable {P:Program} {T:Tab P} {n:Cx} {Q:Exit→Act→World→Prop} {E:Env} {w0:World} {M:Nat→Prop} {H H':List Chunk} {l L:List Oper}
 {d:Nat} {ty:TypeId} {pos:String} {after:Array Edge} {G:World→Prop} {C:List Chunk}
theorem take_seg {α:Type} (cur vs:List α) (o m:Nat) (h:o+vs.length≤m) (hm:m≤cur.length):(cur.take o++vs++cur.drop (o+vs.length)).take m=(cur.take m).take o++vs++(cur.take m).drop (o+vs.length):=by
 rw [List.take_append,List.length_append,List.length_take,Nat.min_eq_left (by omega),List.take_of_length_le (l:=cur.take o++vs) (by simp;omega),List.take_take,Nat.min_eq_left (by omega),List.drop_take]
theorem eff_store_rs {i:Nat} (T:Tab P) {x y:Operand} {t e:TypeId} {ti:TyI} {g o cap sz m:Nat} {xs vs:List Value} {v:Value} (hx:E.ev x=some (.pointer (some ⟨g,o,none⟩))) (hp:Sx.pick H i=some (row (some ⟨g,0,none⟩) cap e sz m xs,H')) (hy:E.ev y=some v) (hv:cellsO v=some vs) (h1:oneC vs=true)
  (ht:T.get t=some ti) (hz:Nat.beq vs.length ti.size=true) (ho:o+vs.length≤xs.length):Eff (α:=Unit) P n w0 M H E none (.store t x y) ty (fun _=>True) (fun _=>E) (fun _=>row (some ⟨g,0,none⟩) cap e sz m (xs.take o++vs++xs.drop (o+vs.length))::H'):=
 ⟨fun _ _ _ _ _ w hw h=>xl_step_u rfl rfl (fun act ha=>by
  obtain ⟨tinf,z,g1,g2,_,_,_⟩:=T.inf ht;have hw':=hw.pick i hp;have hown:w.ownsRow 0 e sz (.slice (some ⟨g,0,none⟩) m cap) m xs:=hw'.head;have hz':vs.length=tinf.size:=by rw [g2];exact Nat.eq_of_beq_eq_true hz
  obtain ⟨hl,hown2⟩:=hown;rcases hown2 with ⟨hv0,_⟩ | ⟨g',cap',cur,hv0,_,hb,hmc,hcm,hcs,htk⟩
  ·cases hv0
  ·simp only [Value.slice.injEq,Option.some.injEq,Addr.mk.injEq,true_and,and_true] at hv0;obtain ⟨rfl,rfl⟩:=hv0;have hmz:m*sz≤cap*sz:=Nat.mul_le_mul_right _ hmc;have hlen:xs.length≤cur.size:=by rw [hl,hcs];exact hmz
   have hst:=run_storeCells_at P g o e vs 0 cur w hb (by omega) (oneC_eq h1);have hc:=cellsO_eq hv;simp only [Nat.add_zero] at hst;refine ⟨w.setRow g (cur.toList.take o++vs++cur.toList.drop (o+vs.length)).toArray,?_,h () _ trivial (hw'.turn rfl ((Turns.setRow w g _).mono (fun k hk=>?_)) ?_ (fun k hk=>.inl hk))⟩
   ·simp only [execOp,ha.eval hx,ha.eval hy,Instr.storeAt,Instr.sureAddr,Sem.run_bind,Sem.run_pure,Result.andThen_ok,storeVar,sizeOf,typeInfo,program,Sem.run,g1,hc];rw [if_neg (by simp [hz'])];rw [hst];simp only [Result.andThen_ok]
   ·show (Value.slice (some ⟨g,0,none⟩) m cap).ownBlock=some k
    subst hk;rfl
   ·have hh:=setRow_heap w g cur (cur.toList.take o++vs++cur.toList.drop (o+vs.length)).toArray e _ hb;have hcl:cur.toList.length=cur.size:=by simp
    refine ⟨by rw [List.length_append,List.length_append,List.length_take,List.length_drop,Nat.min_eq_left (by omega)];omega,.inr ⟨g,cap,_,rfl,Nat.zero_le _,hh,hmc,hcm,?_,?_⟩⟩
    ·simp only [List.size_toArray,List.length_append,List.length_take,List.length_drop,hcl];rw [Nat.min_eq_left (by omega),← hcs];omega
    ·rw [List.toList_toArray,take_seg _ _ _ _ (by rw [← hl];exact ho) (by rw [hcl,hcs];exact hmz),htk])⟩
theorem eff_store_r {i:Nat} (T:Tab P) {x y:Operand} {t e:TypeId} {ti:TyI} {g o cap sz m:Nat} {xs:List Value} {v:Value} (hx:E.ev x=some (.pointer (some ⟨g,o,none⟩))) (hp:Sx.pick H i=some (row (some ⟨g,0,none⟩) cap e sz m xs,H')) (hy:E.ev y=some v) (hv:cellsO v=some [v]) (h1:oneC [v]=true)
  (ht:T.get t=some ti) (hz:Nat.beq 1 ti.size=true) (ho:o<xs.length):Eff (α:=Unit) P n w0 M H E none (.store t x y) ty (fun _=>True) (fun _=>E) (fun _=>row (some ⟨g,0,none⟩) cap e sz m (xs.set o v)::H'):=by
 have:=eff_store_rs (n:=n) (w0:=w0) (M:=M) (ty:=ty) (vs:=[v]) T hx hp hy hv h1 ht hz (by simp;omega);rw [show xs.take o++[v]++xs.drop (o+[v].length)=xs.set o v by rw [List.set_eq_take_append_cons_drop,if_pos ho];simp] at this;exact this
theorem size_mk (l:List UInt8):(ByteArray.mk l.toArray).size=l.length:=by simp [ByteArray.size]
theorem g_max {x y:Operand} {ts:Array TypeId} {k:IntKind} {a b:Int} (hx:E.ev x=some (.int k a)) (hy:E.ev y=some (.int k b)):Gives P n E (.call { callee:=.builtin .max,args:=#[x,y],argTypes:=ts }) ty (.int k (max a b)):=
 .mk <| fun _ _ _ _ act ha w=>by
  simp [execOp,resolve,invoke,builtin,ha.eval hx,ha.eval hy,Builtin.max_,Builtin.max2,show (if b>a then b else a)=max a b by omega]
theorem g_min {x y:Operand} {ts:Array TypeId} {k:IntKind} {a b:Int} (hx:E.ev x=some (.int k a)) (hy:E.ev y=some (.int k b)):Gives P n E (.call { callee:=.builtin .min,args:=#[x,y],argTypes:=ts }) ty (.int k (min a b)):=
 .mk <| fun _ _ _ _ act ha w=>by
  simp [execOp,resolve,invoke,builtin,ha.eval hx,ha.eval hy,Builtin.min_,Builtin.min2,show (if b<a then b else a)=min a b by omega]
theorem wa_as {Hk:List Chunk} {S:World→Prop} {ls ord:List Nat} {fuel i:Nat} {listed:Array Bool} {dst:Option Tmp} {op:Op} {g:Nat×Bool} {t:Tmp} {b:Bool} (c:Bool) (hi:nthO l i=some ⟨dst,op,ty,pos,after,some g⟩) (hg:guardT l g=some t) (hv:E.get t=some (.bool b)) (hb:b=c)
  (h:WS w0 M H Hk (XO P l n Q S ls ((t,.bool c)::E) (i::ord) fuel listed)):WS w0 M H Hk (XO P l n Q S ls E (i::ord) fuel listed):=fun w hw hs=>
 ⟨⟨fun q hcl a ha=>(h w hw hs).run.run q hcl a (envOk_as ha hv hb)⟩⟩
theorem g_divN {op:BinOp} {x y:Operand} {t u:TypeId} {k:IntKind} {a b:Int} (hx:E.ev x=some (.int k a)) (hy:E.ev y=some (.int k b)) (hop:op = .quo) (hb:(decide (0<b))=true) (h0:0≤a) (hin:inK k (a / b)):Gives P n E (.binOp op t x y u) ty (.int k (a / b)):=by
 have hb':0<b:=by simpa using hb
 have:=g_div (P:=P) (n:=n) (ty:=ty) (t:=t) (u:=u) hx hy hop (by omega);rw [Int.tdiv_eq_ediv_of_nonneg h0,wrap_in hin] at this;exact this
theorem g_modN {op:BinOp} {x y:Operand} {t u:TypeId} {k:IntKind} {a b:Int} (hx:E.ev x=some (.int k a)) (hy:E.ev y=some (.int k b)) (hop:op = .rem) (hb:(decide (0<b))=true) (h0:0≤a):Gives P n E (.binOp op t x y u) ty (.int k (a % b)):=by
 have hb':0<b:=by simpa using hb
 have:=g_mod (P:=P) (n:=n) (ty:=ty) (t:=t) (u:=u) hx hy hop (by omega);rw [Int.tmod_eq_emod_of_nonneg h0] at this;exact this
theorem g_strAB (T:Tab P) {x y z:Operand} {t:TypeId} {i:TyI} {s:ByteArray} {k k':IntKind} {a b:Int} (hx:E.ev x=some (.string s)) (hy:E.ev y=some (.int k a)) (hz:E.ev z=some (.int k' b)) (ht:T.get t=some i) (hi':i.desc = .string)
  (h0:0≤a) (h1:a≤b) (h2:b≤s.size):Gives P n E (.slice t x (some y) (some z) none) ty (.string (s.extract a.toNat b.toNat)):=
 g_sliceS T (l:=some a) (r:=some b) hx (by simp [optI,hy]) (by simp [optI,hz]) ht hi' h0 h1 h2
theorem g_strA (T:Tab P) {x y:Operand} {t:TypeId} {i:TyI} {s:ByteArray} {k:IntKind} {a:Int} (hx:E.ev x=some (.string s)) (hy:E.ev y=some (.int k a)) (ht:T.get t=some i) (hi':i.desc = .string)
  (h0:0≤a) (h1:a≤s.size):Gives P n E (.slice t x (some y) none none) ty (.string (s.extract a.toNat s.size)):=
 g_sliceS T (l:=some a) (r:=none) hx (by simp [optI,hy]) rfl ht hi' h0 h1 (Int.le_refl _)
theorem g_strB (T:Tab P) {x z:Operand} {t:TypeId} {i:TyI} {s:ByteArray} {k':IntKind} {b:Int} (hx:E.ev x=some (.string s)) (hz:E.ev z=some (.int k' b)) (ht:T.get t=some i) (hi':i.desc = .string)
  (h1:0≤b) (h2:b≤s.size):Gives P n E (.slice t x none (some z) none) ty (.string (s.extract 0 b.toNat)):=
 g_sliceS T (l:=none) (r:=some b) hx rfl (by simp [optI,hz]) ht hi' (Int.le_refl _) h1 h2
end
end
end Go.Sx
namespace Go.Sx
open Go Chunk
open Go.ChangeShapes Go.WideShapes Go.RowKit
section
set_option maxRecDepth 512
section
variable {H:Type} {enc:TypeId×Value→H} {P:Program} {w:World} {base b0:Nat} {spare:Nat→Bool} {held:Bool} {r:Reach}
def Dec (enc:TypeId×Value→H) (P:Program) (w:World) (base:Nat) (spare:Nat→Bool) (held:Bool) (t:TypeId) {α:Type} (cells:α→List Value) (ok:α→Prop) (seen:α→List Chunk):Prop:=
 ∀ (fuel:Nat) (cs:List Value) (x:DataW H×List MemPlace),DataW.trod enc P w base spare held fuel t cs=some x→∃ a:α,cs=cells a∧ok a∧Seen w (seen a)
theorem dec_int {t:TypeId} {k:IntKind} (ht:P.underlying t=some (.int k)):Dec enc P w base spare held t (α:=Int) (fun n=>[.int k n]) (fun n=>inK k n) (fun _=>[]):=fun fuel cs x h=>by
 obtain ⟨n,rfl,_,hw⟩:=DataW.trod_int ht h;exact ⟨n,rfl,by simpa [Lit.wf,inK] using hw,trivial⟩
theorem Seen.append {w:World}:∀ {A B:List Chunk},Seen w A→Seen w B→Seen w (A++B)
 | [],_,_,h=>h
 | c::A,B,h,h2=>⟨h.1,h.2.append h2⟩
theorem Seen.flat {w:World} {α:Type} {f:α→List Chunk}:∀ {l:List α},(∀ a∈l,Seen w (f a))→Seen w (l.flatMap f)
 | [],_=>trivial
 | a::l,h=>by
  rw [List.flatMap_cons];exact (h a (by simp)).append (Seen.flat (fun b hb=>h b (by simp [hb])))
theorem flat_len {α:Type} {cells:α→List Value} {sz:Nat} (hc:∀ a,(cells a).length=sz):∀ l:List α,(l.flatMap cells).length=l.length*sz
 | []=>by simp
 | a::l=>by rw [List.flatMap_cons,List.length_append,hc,flat_len hc l,List.length_cons,Nat.add_mul];omega
theorem flat_get {α:Type} {cells:α→List Value} {sz:Nat} (hc:∀ a,(cells a).length=sz):∀ {l:List α} {k:Nat} {a:α},l[k]? = some a→((l.flatMap cells).drop (k*sz)).take sz=cells a
 | [],k,a,h=>by simp at h
 | b::l,0,a,h=>by
  simp only [List.getElem?_cons_zero,Option.some.injEq] at h;subst h;rw [Nat.zero_mul,List.drop_zero,List.flatMap_cons,List.take_left' (hc b)]
 | b::l,k+1,a,h=>by
  rw [List.flatMap_cons,show (k+1)*sz=(cells b).length+k*sz by rw [hc,Nat.add_mul];omega,List.drop_append,List.drop_of_length_le (by omega),List.nil_append,Nat.add_sub_cancel_left];exact flat_get hc (by simpa using h)
theorem flat_at {α:Type} {cells:α→List Value} {sz:Nat} (hc:∀ a,(cells a).length=sz) {l:List α} {k j:Nat} {a:α} (h:l[k]? = some a) (hj:j<sz):(l.flatMap cells)[k*sz+j]? = (cells a)[j]? := by
 rw [← flat_get hc h,List.getElem?_take,if_pos hj,List.getElem?_drop]
end
end
end Go.Sx
