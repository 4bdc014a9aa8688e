/- Texts of the proof, in their order: SxH, SxI, SxJ, SxK, SxL, SxM, SxN, SxP, SxQ, SxR, SxS, SxU, SxV, SxW, SxX, Ty. -/
import Derived.Test.YtkolmklfgbimoaaGreatDoorM1
import Derived.RangeFuncCalls
import Derived.Laws.RangeAny
import Derived.Lib.AppendStr
import Derived.Lib.Builder
import Derived.Lib.UnsafeStr
import Derived.Laws.MakeOwn
import Derived.Test.YtkolmklfgbimoaaGreatDoorProg
set_option linter.unusedVariables false
set_option linter.unusedSimpArgs false
set_option maxHeartbeats 16000000
set_option maxRecDepth 100000
namespace Go.Sx
open Go Chunk
section
set_option maxRecDepth 512
set_option linter.unusedSectionVars false
structure KeyK (κ:Type) [DecidableEq κ] (kd:TypeDesc) (enc:κ→Value):Prop where
 same:∀ a b,Instr.sameNow kd (enc a) (enc b)=some (decide (a=b))
 bits:∀ a,Instr.sameBits 10000 (enc a) (enc a)=true
 plain:(∀ ms,kd ≠ .interface ms)∧(∀ m e,kd ≠ .array m e)∧(∀ fs,kd ≠ .struct fs)
theorem keyS:KeyK ByteArray .string Value.string:=⟨fun a b=>by
 simp only [Instr.sameNow,Option.some.injEq];rw [Bool.eq_iff_iff,decide_eq_true_eq];exact bytes_beq a b,fun a=>by
 show (a == a)=true
 exact (bytes_beq a a).2 rfl,by simp⟩
theorem keyI (k:IntKind):KeyK Int (.int k) (Value.int k):=⟨fun a b=>by
 simp only [Instr.sameNow,if_true,Option.some.injEq];rw [Bool.eq_iff_iff,decide_eq_true_eq,beq_iff_eq],fun a=>by simp [Instr.sameBits],by simp⟩
section
variable {κ:Type} [DecidableEq κ] {kd:TypeDesc} {enc:κ→Value}
def entsF (enc:κ→Value):Nat→List (κ×Value)→List MapEntry
 | _,[]=>[]
 | i,(k,v)::l=>{ key:=enc k,val:=v,born:=i }::entsF enc (i+1) l
def mapC (enc:κ→Value) (b:Nat) (l:List (κ×Value)):Chunk:=obj b (.map (entsF enc 0 l).toArray l.length)
def atK:List (κ×Value)→κ→Option Value
 | [],_=>none
 | (k,v)::l,x=>if x=k then some v else atK l x
def putK:List (κ×Value)→κ→Value→List (κ×Value)
 | [],x,u=>[(x,u)]
 | (k,v)::l,x,u=>if x=k then (k,u)::l else (k,v)::putK l x u
theorem entsF_len (i:Nat) (l:List (κ×Value)):(entsF enc i l).length=l.length:=by
 induction l generalizing i with
 | nil=>rfl
 | cons p l ih=>obtain ⟨k,v⟩:=p;simp [entsF,ih]
def placeK:List (κ×Value)→κ→Nat→Option (Nat×Value)
 | [],_,_=>none
 | (k,v)::l,x,i=>if x=k then some (i,v) else placeK l x (i+1)
theorem findNow_eq (K:KeyK κ kd enc) (x:κ):∀ (l:List (κ×Value)) (i j:Nat),Instr.findNow kd (enc x) (entsF enc j l) i=some (placeK l x i)
 | [],i,j=>rfl
 | (k,v)::l,i,j=>by
  simp only [entsF,Instr.findNow,K.same,placeK];by_cases h:x=k
  ·rw [if_pos h,decide_eq_true h]
  ·rw [if_neg h,decide_eq_false h];exact findNow_eq K x l (i+1) (j+1)
theorem placeK_at (x:κ):∀ (l:List (κ×Value)) (i:Nat),(placeK l x i).map (·.2)=atK l x
 | [],i=>rfl
 | (k,v)::l,i=>by
  simp only [placeK,atK];split
  ·rfl
  ·exact placeK_at x l (i+1)
theorem placeK_none {x:κ} {l:List (κ×Value)} {i:Nat} (h:placeK l x i=none):∀ u j,entsF enc j (putK l x u)=entsF enc j l++[{ key:=enc x,val:=u,born:=j+l.length }]:=by
 induction l generalizing i with
 | nil=>intro u j;rfl
 | cons p l ih=>
  obtain ⟨k,v⟩:=p;intro u j;simp only [placeK] at h;split at h
  ·cases h
  ·rename_i hk;simp only [putK,if_neg hk,entsF,ih h u (j+1),List.cons_append,List.length_cons];rw [show j+1+l.length=j+(l.length+1) by omega]
theorem placeK_none_len {x:κ} {l:List (κ×Value)} {i:Nat} (h:placeK l x i=none) (u:Value):(putK l x u).length=l.length+1:=by
 have:=congrArg List.length (placeK_none (enc:=fun _:κ=>Value.bool true) h u 0)
 simpa [entsF_len] using this
theorem placeK_some {x:κ} {l:List (κ×Value)} {i m:Nat} {v:Value} (h:placeK l x i=some (m,v)):i≤m∧m-i<l.length∧(∀ j,((entsF enc j l)[m-i]?).map (·.key)=some (enc x))∧∀ u j,entsF enc j (putK l x u)=(entsF enc j l).modify (m-i) (fun e=>{ e with key:=enc x,val:=u }):=by
 induction l generalizing i with
 | nil=>simp [placeK] at h
 | cons p l ih=>
  obtain ⟨k,w⟩:=p;simp only [placeK] at h;split at h
  ·rename_i hk;cases h;subst hk;refine ⟨Nat.le_refl _,by simp,fun j=>by simp [entsF],fun u j=>?_⟩;simp [putK,entsF]
  ·rename_i hk;obtain ⟨h1,h2,h3,h4⟩:=ih h;refine ⟨by omega,by simp;omega,fun j=>?_,fun u j=>?_⟩
   ·have:=h3 (j+1);rw [show m-i=(m-(i+1))+1 by omega]
    simpa [entsF] using this
   ·rw [show m-i=(m-(i+1))+1 by omega];simp only [putK,if_neg hk,entsF,h4 u (j+1),List.modify_succ_cons]
theorem putK_len_some {x:κ} {l:List (κ×Value)} {i m:Nat} {v:Value} (h:placeK l x i=some (m,v)) (u:Value):(putK l x u).length=l.length:=by
 have:=congrArg List.length ((placeK_some (enc:=fun _:κ=>Value.bool true) h).2.2.2 u 0)
 simpa [entsF_len] using this
def zeroV:TypeDesc→Option Value
 | .int k=>some (.int k 0)
 | .bool=>some (.bool false)
 | .string=>some (.string .empty)
 | .slice _=>some (.slice none 0 0)
 | _=>none
section
variable {P:Program} {T:Tab P} {n:Cx} {Q:Exit→Act→World→Prop} {E:Env} {w0:World} {M:Nat→Prop} {H H':List Chunk} {l L:List Oper}
 {d:Nat} {ty:TypeId} {pos:String} {after:Array Edge} {G:World→Prop} {C:List Chunk}
theorem checkKey_run (K:KeyK κ kd enc) {kt:TypeId} (hk:P.underlying kt=some kd) (em:Bool) (v:Value) (m:Nat) (w:World):(Instr.checkKey em (m+1) kt v).run P w = .ok () w:=by
 obtain ⟨p1,p2,p3⟩:=K.plain;unfold Instr.checkKey;rw [Sem.run_bind,run_underlying hk];simp only [Result.andThen_ok];cases kd with
 | interface ms=>exact absurd rfl (p1 ms)
 | array m e=>exact absurd rfl (p2 m e)
 | struct fs=>exact absurd rfl (p3 fs)
 | _=>cases v <;> rfl
theorem findKey_run (K:KeyK κ kd enc) {kt:TypeId} (hk:P.underlying kt=some kd) (x:κ) (ms:List (κ×Value)) (w:World):(Instr.findKey kt (enc x) (entsF enc 0 ms)).run P w = .ok (placeK ms x 0) w:=by
 unfold Instr.findKey;rw [Sem.run_bind,run_underlying hk];simp only [Result.andThen_ok,findNow_eq K];rfl
theorem getObj_run {b:Nat} {es:Array MapEntry} {ck:Nat} {w:World} (h:w.heap[b]? = some (.map es ck)):(getObj b).run P w = .ok (.map es ck) w:=by simp [getObj,Sem.run,h]
def lookV (ok:Bool) (z:Value) (r:Option Value):Value:=if ok then .tuple #[r.getD z,.bool r.isSome] else r.getD z
theorem ld_map (T:Tab P) (K:KeyK κ kd enc) {i:Nat} {m x:Operand} {t kt e:TypeId} {ti ki ei:TyI} {b:Nat} {ms:List (κ×Value)} {key:κ} {z:Value} {ok:Bool} (hm:E.ev m=some (.map (some b))) (hx:E.ev x=some (enc key)) (hp:nthC C i=some (mapC enc b ms))
  (ht:T.get t=some ti) (hti:ti.desc = .map kt e) (hk:T.get kt=some ki) (hkd:ki.desc=kd) (he:T.get e=some ei) (hz:zeroV ei.desc=some z) (hz2:(P.info? e).map (·.zero)=some (some z)):Lds P n C E (.lookup t m x ok) ty (lookV ok z (atK ms key)):=
 .mk <| fun _ _ _ _ a ha w hw=>by
  have hb:w.heap[b]? = some (.map (entsF enc 0 ms).toArray ms.length):=hw.nth hp;have hu:=T.und ht;rw [hti] at hu;have hku:=T.und hk;rw [hkd] at hku
  have hzr:(zeroValue e).run P w = .ok z w:=by
   cases hi:P.info? e with
   | none=>rw [hi] at hz2;cases hz2
   | some ti'=>
    rw [hi] at hz2;simp only [Option.map_some,Option.some.injEq] at hz2;simp [zeroValue,typeInfo,program,Sem.run,hi,hz2]
  have hat:=placeK_at key ms 0;simp only [execOp,ha.eval hm,ha.eval hx,Instr.lookup,Sem.run_bind,run_underlying hu,Result.andThen_ok,getObj_run hb,Sem.run_pure,checkKey_run K hku,findKey_run K hku];cases hf:placeK ms key 0 with
  | none=>
   rw [hf] at hat;simp only [Option.map_none] at hat;rw [← hat];simp only [Sem.run_bind,hzr,Result.andThen_ok,Sem.run_pure];cases ok <;> rfl
  | some r=>
   rw [hf] at hat;simp only [Option.map_some] at hat;rw [← hat];simp only [Sem.run_pure,Result.andThen_ok];cases ok <;> rfl
theorem g_mapnil (T:Tab P) (K:KeyK κ kd enc) {m x:Operand} {t kt e:TypeId} {ti ki ei:TyI} {key:κ} {z:Value} {ok:Bool} (hm:E.ev m=some (.map none)) (hx:E.ev x=some (enc key))
  (ht:T.get t=some ti) (hti:ti.desc = .map kt e) (hk:T.get kt=some ki) (hkd:ki.desc=kd) (he:T.get e=some ei) (hz:zeroV ei.desc=some z) (hz2:(P.info? e).map (·.zero)=some (some z)):Gives P n E (.lookup t m x ok) ty (lookV ok z none):=
 .mk <| fun _ _ _ _ a ha w=>by
  have hu:=T.und ht;rw [hti] at hu;have hku:=T.und hk;rw [hkd] at hku
  have hzr:(zeroValue e).run P w = .ok z w:=by
   cases hi:P.info? e with
   | none=>rw [hi] at hz2;cases hz2
   | some ti'=>
    rw [hi] at hz2;simp only [Option.map_some,Option.some.injEq] at hz2;simp [zeroValue,typeInfo,program,Sem.run,hi,hz2]
  have hf:=findKey_run (w:=w) K hku key [];simp only [entsF,placeK] at hf;simp only [execOp,ha.eval hm,ha.eval hx,Instr.lookup,Sem.run_bind,run_underlying hu,Result.andThen_ok,Sem.run_pure,checkKey_run K hku,hf,hzr];cases ok <;> rfl
theorem eff_makeMap {t:TypeId} (hn:Nat.blt d n.m=true):Eff P n w0 M H E (some d) (.makeMap t none) ty (fun (_:Nat)=>True) (fun b=>(d,.map (some b))::E) (fun b=>obj b (.map #[] 0)::H):=
 ⟨fun _ _ _ _ _ w hw h=>xl_step_w rfl rfl hn (fun act ha=>⟨_,_,by simp [execOp,Instr.makeMap,run_newObj_alloc],h _ _ trivial hw.alloc⟩)⟩
theorem eff_mapUpdate (T:Tab P) (K:KeyK κ kd enc) {i:Nat} {m x v:Operand} {t kt e:TypeId} {ti ki:TyI} {b:Nat} {ms:List (κ×Value)} {key:κ} {u:Value} (hm:E.ev m=some (.map (some b))) (hx:E.ev x=some (enc key)) (hv:E.ev v=some u) (hp:Sx.pick H i=some (mapC enc b ms,H'))
  (ht:T.get t=some ti) (hti:ti.desc = .map kt e) (hk:T.get kt=some ki) (hkd:ki.desc=kd):Eff (α:=Unit) P n w0 M H E none (.mapUpdate t m x v) ty (fun _=>True) (fun _=>E) (fun _=>mapC enc b (putK ms key u)::H'):=
 ⟨fun _ _ _ _ _ w hw h=>xl_step_u rfl rfl (fun act ha=>by
  have hw':=hw.pick i hp;have hb:w.heap[b]? = some (.map (entsF enc 0 ms).toArray ms.length):=hw'.head;have hlt:b<w.heap.size:=(Array.getElem?_eq_some_iff.1 hb).1;have hu:=T.und ht;rw [hti] at hu;have hku:=T.und hk;rw [hkd] at hku;have hset:∀ o:Obj,(setObj b o).run P w = .ok () (w.putObj b o):=fun o=>by simp [setObj,Sem.run,hb,World.putObj]
  have hturn:∀ o:Obj,Turns (fun k=>k=b) w (w.putObj b o):=fun o=>⟨rfl,rfl,rfl,by simp,fun k _ hk=>World.putObj_heap_other hk⟩
  cases hf:placeK ms key 0 with
  | none=>
   refine ⟨w.putObj b (.map ((entsF enc 0 ms).toArray.push { key:=enc key,val:=u,born:=ms.length }) (ms.length+1)),?_,h () _ trivial (hw'.turn rfl (hturn _) ?_ (fun k hk=>.inl hk))⟩
   ·simp only [execOp,ha.eval hm,ha.eval hx,ha.eval hv,Instr.mapUpdate,Sem.run_bind,run_underlying hu,Result.andThen_ok,getObj_run hb,Sem.run_pure,checkKey_run K hku,findKey_run K hku,hf,hset]
   ·show (w.putObj b _).heap[b]? = some _
    rw [World.putObj_heap_same hlt,placeK_none hf u 0,placeK_none_len hf u];simp
  | some r=>
   obtain ⟨j,v0⟩:=r;obtain ⟨h1,h2,h3,h4⟩:=placeK_some (enc:=enc) hf;simp only [Nat.sub_zero] at h2 h3 h4;have h3':=h3 0;refine ⟨w.putObj b (.map ((entsF enc 0 ms).toArray.modify j (fun e=>{ e with key:=enc key,val:=u })) ms.length),?_,h () _ trivial (hw'.turn rfl (hturn _) ?_ (fun k hk=>.inl hk))⟩
   ·simp only [execOp,ha.eval hm,ha.eval hx,ha.eval hv,Instr.mapUpdate,Sem.run_bind,run_underlying hu,Result.andThen_ok,getObj_run hb,Sem.run_pure,checkKey_run K hku,findKey_run K hku,hf,List.getElem?_toArray,h3',Option.getD_some,Instr.keyThatStays,K.bits,if_true,hset]
   ·show (w.putObj b _).heap[b]? = some _
    rw [World.putObj_heap_same hlt,h4 u 0,putK_len_some hf u];simp)⟩
end
end
end
section
set_option maxRecDepth 512
def markD (D:Nat):Deferred:={ target:=.collected D,args:=#[] }
def recL (fn:FuncId) (tmps:Array Value) (ps:Array Tmp) (assign body:Code) (D:Nat):Loop:={ state:=.ready,pending:=none,fn,tmps,params:=ps,assign,body,defers:=D }
structure YdC {α:Type} (P:Program) (l:Nat) (args:List Value) (A:List Chunk) (val:α→Value) (out:α→List Chunk) (Φ:α→Prop):Prop where
 run:∀ w,St w (ownsW A) w A→∃ fn tmps assign body,(Instr.yield l args.toArray).run P w = .ok (.round l fn tmps assign body) w∧RoundIn (FW none) 0 P l fn tmps assign body w (Ret w A val out Φ)
def defD (D:Nat):Chunk:=obj D (.deferred (some []))
def recC (l:Nat) (r:Loop):Chunk:=obj l (.loop r)
def bodyM (P:Program) (fn:Func) (R:Ending→World→Prop):Exit→Act→World→Prop
 | .panic _,_,_=>False
 | .outgrown,_,_=>False
 | e,a,w=>bodyPostM (FW none) 0 P fn R e a w
theorem qok_bodyM {P:Program} {fn:Func} {R:Ending→World→Prop}:QOk (bodyM P fn R):=⟨fun _ _ _ _ _ h=>h,fun _ _ h=>h⟩
theorem qok_round {P:Program} {l:Nat} {R:Ending→World→Prop}:QOk (roundPost P l R):=⟨fun _ _ _ _ _ h=>h,fun _ _ h=>h⟩
def beginK (P:Program) (l:Nat) (body:Code) (R:Ending→World→Prop) (a:Act) (w:World):Prop:=∃ w₂,(Instr.beginRound l).run P w = .ok () w₂∧body.wpIn (FW (some l)) 0 P (roundPost P l R) a w₂
def yieldK (P:Program) (l:List Oper) (ro:Option Nat) (o:Oper) (L2:List Oper) (Q:Exit→Act→World→Prop) (a:Act) (w:World):Prop:=QOk Q∧wpListIn (FW ro) 0 P l.toArray Q (o::L2) a w
theorem uponIn_then {F:Fence} {n:Nat} {P:Program} {o:Oper} {a:Act} {w:World} {K K':Act→World→Prop} {Q:Exit→Act→World→Prop} (h:o.wpIn F n P a w K (Exit.then K' Q)):o.wpIn F n P a w K Q:=by
 unfold Oper.wpIn at h ⊢;refine ⟨h.1,?_⟩;have h2:=h.2;generalize (o.semAt F.round a.eval).run P w=r at h2 ⊢;cases r with
 | ok x w'=>cases x <;> simp only [Oper.uponIn] at h2 ⊢ <;> exact h2
 | halt x w'=>cases x <;> simp only [Oper.uponIn] at h2 ⊢ <;> exact h2
theorem listIn_append {F:Fence} {n:Nat} {P:Program} {ops:Array Oper} {Q:Exit→Act→World→Prop} {L2:List Oper}:∀ {L1:List Oper} {a:Act} {w:World},wpListIn F n P ops (Exit.then (wpListIn F n P ops Q L2) Q) L1 a w→wpListIn F n P ops Q (L1++L2) a w
 | [],_,_,h=>h
 | o::L1,a,w,h=>by
  unfold wpListIn at h;rw [List.cons_append];unfold wpListIn;split
  ·rename_i hw;rw [if_pos hw] at h;exact uponIn_then (Oper.wpIn_mono (fun a w h=>listIn_append h) h)
  ·rename_i hw;rw [if_neg hw] at h;exact ⟨h.1,listIn_append h.2⟩
section
variable {P:Program} {T:Tab P} {n:Cx} {Q:Exit→Act→World→Prop} {E:Env} {w0:World} {M:Nat→Prop} {H H':List Chunk} {l L:List Oper}
 {d:Nat} {ty:TypeId} {pos:String} {after:Array Edge} {G:World→Prop} {C:List Chunk}
theorem Sep.sink {w:World} {c:Chunk} {B:List Chunk}:∀ {A:List Chunk},Sep w0 M w (c::(A++B))→Sep w0 M w (A++c::B)
 | [],h=>h
 | a::A,h=>by
  obtain ⟨h1,h2,h3,h4,h5,h6,h7⟩:=h;refine ⟨h4,h5,fun x hx=>?_,Sep.sink ⟨h1,h2,fun x hx=>h3 x (by simp only [List.cons_append,List.mem_cons];exact .inr hx),h7⟩⟩;rcases List.mem_append.1 hx with hx | hx
  ·exact h6 x (List.mem_append.2 (.inl hx))
  ·rcases List.mem_cons.1 hx with rfl | hx
   ·exact (h3 a (by simp)).symm
   ·exact h6 x (List.mem_append.2 (.inr hx))
theorem w_regionY {id:Nat} (L1:List Oper) (o:Oper) (L2:List Oper) (hl:l=L1++o::L2) (hd:noDef L1=true) (h:Wd w0 M H (XR P l n (Exit.then (yieldK P l n.ro o L2 Q) Q) E L1)):Wd w0 M H (XC P n Q E (.region id l.toArray false)):=fun w hw=>
 ⟨fun q a ha=>by
  refine wpIn_region_list ?_;have h1:=list_fw (ro:=n.ro) q.then hd ((h w hw l.toArray (by simp)).run q.then a ha)
  have h2:wpListIn (FW n.ro) 0 P l.toArray Q (L1++o::L2) a w:=listIn_append (wpIn_list_mono h1);rw [List.toList_toArray];subst hl;exact h2⟩
where
 wpIn_list_mono {F:Fence} {m:Nat} {ops:Array Oper} {o:Oper} {L2:List Oper} {ro:Option Nat} {Q:Exit→Act→World→Prop} {l:List Oper}:∀ {L1:List Oper} {a:Act} {w:World},wpListIn F m P ops (Exit.then (yieldK P l ro o L2 Q) Q) L1 a w→wpListIn F m P ops (Exit.then (wpListIn (FW ro) 0 P l.toArray Q (o::L2)) Q) L1 a w
  | [],_,_,h=>h.2
  | x::L1,a,w,h=>by
   unfold wpListIn at h ⊢;split
   ·rename_i hw;rw [if_pos hw] at h;have h':=uponIn_then h;have h2:=Oper.wpIn_mono (K':=wpListIn F m P ops (Exit.then (wpListIn (FW ro) 0 P l.toArray Q (o::L2)) Q) L1) (fun a w h=>wpIn_list_mono h) h';unfold Oper.wpIn at h2 ⊢;refine ⟨h2.1,?_⟩;have h3:=h2.2;generalize (x.semAt F.round a.eval).run P w=r at h3 ⊢;cases r with
    | ok x w'=>cases x <;> simp only [Oper.uponIn] at h3 ⊢ <;> exact h3
    | halt x w'=>cases x <;> simp only [Oper.uponIn] at h3 ⊢ <;> exact h3
   ·rename_i hw;rw [if_neg hw] at h;exact ⟨h.1,wpIn_list_mono h.2⟩
def splitO:List Oper→Nat→Option (List Oper×Oper×List Oper)
 | [],_=>none
 | o::l,0=>some ([],o,l)
 | x::l,k+1=>match splitO l k with
  | some (a,o,b)=>some (x::a,o,b)
  | none=>none
theorem splitO_eq:∀ {l:List Oper} {k:Nat} {a:List Oper} {o:Oper} {b:List Oper},splitO l k=some (a,o,b)→l=a++o::b
 | [],k,a,o,b,h=>by simp [splitO] at h
 | x::l,0,a,o,b,h=>by
  simp only [splitO,Option.some.injEq,Prod.mk.injEq] at h;obtain ⟨rfl,rfl,rfl⟩:=h;rfl
 | x::l,k+1,a,o,b,h=>by
  simp only [splitO] at h;split at h
  ·rename_i a' o' b' h';cases h;rw [List.cons_append,← splitO_eq h']
  ·cases h
theorem w_regionYn {id:Nat} (k:Nat) {L1:List Oper} {o:Oper} {L2:List Oper} (hl:splitO l k=some (L1,o,L2)) (hd:noDef L1=true) (h:Wd w0 M H (XR P l n (Exit.then (yieldK P l n.ro o L2 Q) Q) E L1)):Wd w0 M H (XC P n Q E (.region id l.toArray false)):=w_regionY L1 o L2 (splitO_eq hl) hd h
theorem Sep.comm {w:World} {A B:List Chunk} (h:Sep w0 M w (A++B)):Sep w0 M w (B++A):=by
 obtain ⟨h1,h2,h3⟩:=Sep.append.1 h;exact Sep.append.2 ⟨h2,h1,fun c hc d hd=>(h3 d hd c hc).symm⟩
theorem St.comm {w:World} {A B:List Chunk} (h:St w0 M w (A++B)):St w0 M w (B++A):=⟨h.base,Sep.comm h.sep⟩
theorem w_yieldT {α:Type} {ly:Nat} {vs:List Value} {fo:Operand} {A R:List Chunk} {val:α→Value} {out:α→List Chunk} {Φ:α→Prop} {args:Array Operand} {ts:Array TypeId} {L2:List Oper} (hs:YdC P ly vs A val out Φ)
  (hro:n.ro=none) (hf:E.ev fo=some (.func (.yield ly) #[] #[])) (ha:E.evs args.toList=some vs) (ho:∀ x,allW (out x)=true) (hn:Nat.blt d n.m=true) (hd:noDef L2=true)
  (h:∀ z,Φ z→Wd w0 M (R++out z) (XR P l n Q ((d,val z)::E) L2)):Wd w0 M (R++A) (XQ n (Exit.then (yieldK P l n.ro (⟨some d,.call { callee:=.value fo,args:=args,argTypes:=ts },ty,pos,after,none⟩) L2 Q) Q) .normal E):=fun w hw=>
 ⟨fun q' act hact=>by
  have q:QOk Q:=⟨q'.panic,q'.out⟩
  refine ⟨q,?_⟩;refine wpListIn_plain rfl fun K hK=>?_
  have hsep:=Sep.comm hw.sep;obtain ⟨hA,hR,hAR⟩:=Sep.append.1 hsep;have hpre:St w (ownsW A) w A:=⟨Base.refl _ _,hA.local _ (fun c hc hcw k hk=>ownsW_mem.2 ⟨c,hc,hcw,hk⟩)⟩
  obtain ⟨fn,tmps,assign,body,hy,hround⟩:=hs.run w hpre
  have hargs:args.map act.eval=vs.toArray:=by
   apply Array.ext';rw [Array.toList_map]
   simpa using hact.evals ha
  have hrun:(Oper.semAt (FW n.ro).round act.eval ⟨some d,.call { callee:=.value fo,args:=args,argTypes:=ts },ty,pos,after,none⟩).run P w = .ok (.round ly fn tmps assign body) w:=by
   rw [Oper.semAt_eq _ _ _ (by simp)];simp [execOp,resolve,hact.eval hf,Deferred.ofValue,invoke,hargs,hy]
  unfold Oper.wpIn;refine ⟨fun _ _=>trivial,?_⟩;rw [hrun,Oper.uponIn_round];refine ⟨fun h=>(by cases h),?_⟩;rw [hro];refine hround.mono fun e w' hret=>?_
  obtain ⟨x,rfl,hst,hphi⟩:=hret;have hst':=(St.call hsep hw.base hst (fun c hc hcw=>by rw [allW_mem (ho x) c hc] at hcw;cases hcw)).comm;refine hK _ _ ?_;have h1:=(h x hphi w' hst' l.toArray (by simp)).run q _ (hact.put hn);exact list_fw q hd h1⟩
theorem yd_intro {α:Type} {ly m:Nat} {r:Loop} {args:List Value} {A':List Chunk} {val:α→Value} {out:α→List Chunk} {Φ:α→Prop} (hr:r.state = .ready) (ha:args.length=r.params.size)
  (henv:EnvOk { tmps:=(r.params.zip args.toArray).foldl (fun tmps (p:Tmp×Value)=>tmps.setIfInBounds p.1 p.2) r.tmps,defers:=[] } E ⟨m,[],some ly⟩)
  (h:∀ w0,Wd w0 (ownsW (recC ly r::A')) (recC ly r::A') (XC P ⟨m,[],some ly⟩ (Exit.then (beginK P ly r.body (Ret w0 (recC ly r::A') val out Φ)) (fun _ _ _=>False)) E r.assign)):YdC P ly args (recC ly r::A') val out Φ:=
 ⟨fun w hw=>by
  have hb:w.heap[ly]? = some (.loop r):=hw.head;refine ⟨_,_,_,_,run_yield hb (by simpa using ha),?_⟩;refine roundIn_of_wpIn trivial ?_;have h1:=(h w w hw).run ⟨fun _ _ _ _ _ h=>h,fun _ _ h=>h⟩ _ henv;exact h1⟩
theorem w_begin {ly:Nat} {r:Loop} {body:Code} {R:Ending→World→Prop} (hro:n.ro=some ly) (hr:r.state = .ready) (h:Wd w0 M (recC ly { r with state:=.busy }::H) (XC P n (roundPost P ly R) E body)):Wd w0 M (recC ly r::H) (XQ n (Exit.then (beginK P ly body R) (fun _ _ _=>False)) .normal E):=fun w hw=>
 ⟨fun _ a ha=>by
  have hb:w.heap[ly]? = some (.loop r):=hw.head;have hlt:ly<w.heap.size:=(Array.getElem?_eq_some_iff.1 hb).1;refine ⟨_,run_beginRound hb hr,?_⟩;have hst:St w0 M (w.putObj ly (.loop { r with state:=.busy })) (recC ly { r with state:=.busy }::H):=hw.turn rfl ⟨rfl,rfl,rfl,by simp,fun k _ hk=>World.putObj_heap_other hk⟩ (World.putObj_heap_same hlt) (fun k hk=>.inl hk);have h1:=(h _ hst).run qok_round a ha;rw [hro] at h1;exact h1⟩
section
variable {α:Type} {A R':List Chunk} {val:α→Value} {out:α→List Chunk} {Φ:α→Prop}
theorem w_rgo {ly i:Nat} {r:Loop} {H'':List Chunk} (x:α) (is:List Nat) (hp0:Sx.pick H i=some (recC ly r,H'')) (hv:.bool true=val x) (hp:picks is (recC ly { r with state:=.ready,pending:=none }::H'')=some (out x,R')) (hx:Φ x):Wd w0 (ownsW A) H (XQ n (roundPost P ly (Ret w0 A val out Φ)) .normal E):=fun w hw=>
 ⟨fun _ a ha=>by
  have hw':=hw.pick i hp0;have hb:w.heap[ly]? = some (.loop r):=hw'.head;have hlt:ly<w.heap.size:=(Array.getElem?_eq_some_iff.1 hb).1;have hst:St w0 (ownsW A) (w.putObj ly (.loop { r with state:=.ready,pending:=none })) (recC ly { r with state:=.ready,pending:=none }::H''):=hw'.turn rfl ⟨rfl,rfl,rfl,by simp,fun k _ hk=>World.putObj_heap_other hk⟩ (World.putObj_heap_same hlt) (fun k hk=>.inl hk);exact ⟨_,_,run_endRound none hb,x,by rw [← hv];rfl,hst.sub is hp,hx⟩⟩
end
theorem w_rangeFunc {σ τ:Type} {g:Operand} {ps:Array Tmp} {assign body:Code} {gf:FuncId} {first cap:Array Value} {A R:List Chunk} (is:List Nat) (outN:σ→List Chunk) (outX:τ→List Chunk) (ΦN:σ→Prop) (ΦX:τ→Prop) (jump:τ→Code)
  (hcall:∀ (ly D:Nat) (fn:FuncId) (tmps:Array Value),EnvOk { tmps:=tmps,defers:=[] } E ⟨n.m,[],some ly⟩ →
   FnC P gf (first.toList++[.func (.yield ly) #[] #[]]++cap.toList) (recC ly (recL fn tmps ps assign body D)::A) [] (fun (_:σ ⊕ τ)=>.tuple #[])
    (Sum.elim (fun s=>recC ly (recL fn tmps ps assign body D)::outN s) (fun t=>recC ly { recL fn tmps ps assign body D with state:=.done,pending:=some (jump t) }::outX t)) (Sum.elim ΦN ΦX))
  (hro:n.ro=none) (hg:E.ev g=some (.func (.func gf) first cap)) (hp:picks is H=some (A,R)) (hoN:∀ s,allW (outN s)=true) (hoX:∀ t,allW (outX t)=true)
  (hnorm:∀ D s,ΦN s→Wd w0 M (outN s++defD D::R) (XQ ⟨n.m,markD D::n.ds,none⟩ Q .normal E))
  (hjump:∀ D t,ΦX t→Wd w0 M (outX t++defD D::R) (XC P ⟨n.m,markD D::n.ds,none⟩ Q E (jump t))):Wd w0 M H (XC P n Q E (.rangeFunc g ps assign body)):=fun w hw=>
 ⟨fun q a ha=>by
  rw [hro];refine wpIn_rangeFunc fun fn _=>?_
  have hsep:=picks_sep hp hw.sep;have hst0:St w0 M w (A++R):=⟨hw.base,hsep⟩
  have hst1:=hst0.alloc (o:=.deferred (some []));have hst2:=hst1.alloc (o:=.loop (recL fn a.tmps ps assign body w.heap.size));have hsz:(w.alloc (.deferred (some []))).heap.size=w.heap.size+1:=by simp
  rw [hsz] at hst2
  have hst3:St w0 M _ ((recC (w.heap.size+1) (recL fn a.tmps ps assign body w.heap.size)::A)++defD w.heap.size::R):=⟨hst2.base,by
   obtain ⟨h1,h2,h3,h4⟩:=hst2.sep;refine ⟨h1,h2,fun x hx=>h3 x ?_,Sep.sink h4⟩;rcases List.mem_append.1 hx with hx | hx
   ·simp [hx]
   ·rcases List.mem_cons.1 hx with rfl | hx
    ·exact List.mem_cons.2 (.inl rfl)
    ·simp [hx]⟩
  have hc:=hcall (w.heap.size+1) w.heap.size fn a.tmps ⟨rfl,ha.size,ha.get⟩;obtain ⟨fnd,c,hfn,hbody,hname⟩:=hc.called;have hname':¬ fnd.name = "runtime.NumGoroutine" := by simpa using hname
  have hcalls:=hst3.calls (is:=List.replicate (A.length+1) 0) hc (picks_front (_::A) (_::R)) trivial (by
   intro x;cases x with
   | inl s=>simp only [Sum.elim_inl,allW,recC,Chunk.wr];exact hoN s
   | inr t=>simp only [Sum.elim_inr,allW,recC,Chunk.wr];exact hoX t)
  refine ⟨w.heap.size+1,[markD w.heap.size],(w.alloc (.deferred (some []))).alloc (.loop (recL fn a.tmps ps assign body w.heap.size)),{ target:=.fn (.func gf) cap,args:=first ++ #[Value.func (.yield (w.heap.size+1)) #[] #[]] },(w.alloc (.deferred (some []))).alloc (.loop (recL fn a.tmps ps assign body w.heap.size)),gf,(first.toList++[Value.func (.yield (w.heap.size+1)) #[] #[]]++cap.toList).toArray,(w.alloc (.deferred (some []))).alloc (.loop (recL fn a.tmps ps assign body w.heap.size)),run_enterLoop_outer fn a.tmps ps assign body,?_,fun _ _=>trivial,?_,fun h=>(by cases h),?_⟩
  ·have hev:=ha.eval hg;simp only [resolve,rangeCall,hev];simp [Deferred.ofValue,Act.eval]
  ·simp [invoke,callFunc,program,Sem.run,hfn,hbody,hname']
  ·refine calls_fw (hcalls.mono fun e w3 hret=>?_);obtain ⟨x,rfl,hst,hphi⟩:=hret;have hact:∀ D,EnvOk { tmps:=a.tmps,defers:=markD D::a.defers } E ⟨n.m,markD D::n.ds,none⟩:=fun D=>⟨by show markD D::a.defers=_;rw [ha.defers],ha.size,ha.get⟩
   cases x with
   | inl s=>
    have hb:w3.heap[w.heap.size+1]? = some (.loop (recL fn a.tmps ps assign body w.heap.size)):=hst.head;refine ⟨none,_,run_endLoop hb (by simp [recL]),?_⟩;have hlt:w.heap.size+1<w3.heap.size:=(Array.getElem?_eq_some_iff.1 hb).1;have hst':=(hst.turn (w':=w3.putObj (w.heap.size+1) (.loop { recL fn a.tmps ps assign body w.heap.size with state:=.exhausted })) (c':=recC (w.heap.size+1) { recL fn a.tmps ps assign body w.heap.size with state:=.exhausted }) rfl ⟨rfl,rfl,rfl,by simp,fun k _ hk=>World.putObj_heap_other hk⟩ (World.putObj_heap_same hlt) (fun k hk=>.inl hk)).drop;exact (hnorm w.heap.size s hphi _ hst').run q _ (hact w.heap.size)
   | inr t=>
    have hb:w3.heap[w.heap.size+1]? = some (.loop { recL fn a.tmps ps assign body w.heap.size with state:=.done,pending:=some (jump t) }):=hst.head;refine ⟨some (jump t),_,run_endLoop hb (by simp),?_⟩;have hlt:w.heap.size+1<w3.heap.size:=(Array.getElem?_eq_some_iff.1 hb).1;have hst':=(hst.turn (w':=w3.putObj (w.heap.size+1) (.loop { recL fn a.tmps ps assign body w.heap.size with state:=.exhausted,pending:=some (jump t) })) (c':=recC (w.heap.size+1) { recL fn a.tmps ps assign body w.heap.size with state:=.exhausted,pending:=some (jump t) }) rfl ⟨rfl,rfl,rfl,by simp,fun k _ hk=>World.putObj_heap_other hk⟩ (World.putObj_heap_same hlt) (fun k hk=>.inl hk)).drop;exact (hjump w.heap.size t hphi _ hst').run q _ (hact w.heap.size)⟩
where
 picks_front:∀ (A R:List Chunk),picks (List.replicate A.length 0) (A++R)=some (A,R)
  | [],R=>rfl
  | c::A,R=>by simp only [List.length_cons,List.replicate_succ,List.cons_append,picks,Sx.pick,picks_front A R]
theorem fn_introM {α:Type} {f:FuncId} {fn:Func} {c:Code} {args:List Value} {A B:List Chunk} {val:α→Value} {out:α→List Chunk} {Φ:α→Prop} {m:Nat} (hf:P.funcs[f]? = some fn) (hm:fn.ntmps=m) (hb:fn.body=some c) (hname:(fn.name == "runtime.NumGoroutine")=false) (hle:Nat.ble args.length m=true)
  (h:∀ w0,Wd w0 (ownsW A) (A++B) (XC P ⟨m,[],none⟩ (bodyM P fn (Ret w0 A val out Φ)) (Env.ofArgs 0 args) c)):FnC P f args A B val out Φ:=
 ⟨⟨fn,c,hf,hb,hname⟩,fun w hw=>by
  refine (callsIn_wide (n:=0)).1 ?_;have h1:=(h w w hw).run qok_bodyM _ (by rw [← hm] at hle ⊢;exact envOk_enter hle);refine callsIn_of_wp_marks (F:=FW none) hf hb trivial ?_ rfl;rw [hm] at *;refine wpIn_mono h1 (fun e a w hq=>?_);cases e <;> first | exact hq | exact hq.elim⟩
section
variable {α:Type} {A R:List Chunk} {val:α→Value} {out:α→List Chunk} {Φ:α→Prop} {fn:Func} {e:Exit} {rs:List ResultVar} {vs:List Value}
theorem w_endM1 {D i:Nat} {H1:List Chunk} (x:α) (is:List Nat) (hds:n.ds=[markD D]) (hp0:Sx.pick H i=some (defD D,H1)) (he:e = .ret∨e = .normal) (hf:fn.results=rs.toArray) (hr:ResOk P n H1 E rs vs) (hv:packR vs=val x) (hp:picks is H1=some (out x,R)) (hx:Φ x) :
  Wd w0 (ownsW A) H (XQ n (bodyM P fn (Ret w0 A val out Φ)) e E):=fun w hw=>
 ⟨fun _ a ha=>by
  have hw1:=hw.pick i hp0;have hb:w.heap[D]? = some (.deferred (some [])):=hw1.head;have hlt:D<w.heap.size:=(Array.getElem?_eq_some_iff.1 hb).1;have hd:a.defers=[markD D]:=ha.defers.trans hds;have hw2:St w0 (ownsW A) (w.putObj D (.deferred none)) H1:=(hw1.turn (w':=w.putObj D (.deferred none)) (c':=obj D (.deferred none)) rfl ⟨rfl,rfl,rfl,by simp,fun k _ hk=>World.putObj_heap_other hk⟩ (World.putObj_heap_same hlt) (fun k hk=>.inl hk)).drop;have hres:=res_results hf hr ha hw2.sc
  have key:LeavesInM (FW none) 0 P fn a.tmps (Ret w0 A val out Φ) a.defers .returning w:=by
   rw [hd];refine ⟨by simp,.inl ⟨D,_,rfl,run_takeDeferred hb,?_⟩⟩;exact ⟨_,hres,x,by rw [hv],hw2.sub is hp,hx⟩
  rcases he with rfl | rfl
  ·exact key
  ·exact key⟩
end
end
end
section
set_option maxRecDepth 512
def envPut:List (Tmp×Value)→Env→Env
 | [],E=>E
 | p::l,E=>envPut l ((p.1,p.2)::E)
theorem envOk_params {n:Cx}:∀ {l:List (Tmp×Value)} {t:Array Value} {d:List Deferred} {E:Env},EnvOk { tmps:=t,defers:=d } E n→l.all (fun p=>Nat.blt p.1 n.m)=true →
  EnvOk { tmps:=l.foldl (fun tmps (p:Tmp×Value)=>tmps.setIfInBounds p.1 p.2) t,defers:=d } (envPut l E) n
 | [],t,d,E,h,_=>h
 | p::l,t,d,E,h,hl=>by
  simp only [List.all_cons,Bool.and_eq_true] at hl;have:=h.put (v:=p.2) hl.1;exact envOk_params (l:=l) (t:=t.setIfInBounds p.1 p.2) (d:=d) (E:=(p.1,p.2)::E) this hl.2
theorem yd_go {P:Program} {α:Type} {ly m D:Nat} {fn:FuncId} {tmps:Array Value} {ps:List Tmp} {assign body:Code} {args:List Value} {A':List Chunk} {val:α→Value} {out:α→List Chunk} {Φ:α→Prop} {E E0:Env}
  (hE:EnvOk { tmps:=tmps,defers:=[] } E ⟨m,[],some ly⟩) (hs:EnvSub E E0) (ha:args.length=ps.length) (hm:(ps.zip args).all (fun p=>Nat.blt p.1 m)=true)
  (h:∀ w0,Wd w0 (ownsW (recC ly (recL fn tmps ps.toArray assign body D)::A')) (recC ly (recL fn tmps ps.toArray assign body D)::A')
   (XC P ⟨m,[],some ly⟩ (Exit.then (beginK P ly body (Ret w0 (recC ly (recL fn tmps ps.toArray assign body D)::A') val out Φ)) (fun _ _ _=>False)) (envPut (ps.zip args) E0) assign)):YdC P ly args (recC ly (recL fn tmps ps.toArray assign body D)::A') val out Φ:=by
 refine yd_intro rfl (by simpa [recL] using ha) ?_ h;have h1:=envOk_params (l:=ps.zip args) (hE.sub hs) hm
 simpa [recL,← Array.foldl_toList] using h1
theorem FnC.perm {P:Program} {α:Type} {f:FuncId} {args:List Value} {A A':List Chunk} {val:α→Value} {out out':α→List Chunk} {Φ:α→Prop} (is:List Nat) (hs:FnC P f args A [] val out Φ) (hp:picks is A'=some (A,[])) (ho:∀ x,allW (out x)=true) (h:∀ x,∃ js rest,picks js (out x)=some (out' x,rest)):FnC P f args A' [] val out' Φ:=
 (hs.frame is hp trivial ho).map (fun x hx=>⟨x,rfl,by
  obtain ⟨js,rest,h⟩:=h x;exact ⟨js,rest,by rw [List.append_nil];exact h⟩,hx⟩)
end
end Go.Sx
namespace Go.Sx
open Go Chunk
open Go.ChangeShapes Go.WideShapes Go.RowKit
section
set_option maxRecDepth 512
section
variable {H:Type} {enc:TypeId×Value→H} {P:Program} {w:World} {base b0:Nat} {spare:Nat→Bool} {held:Bool} {r:Reach}
end
end
end Go.Sx
namespace Go.Sx
open Go Chunk
section
set_option maxRecDepth 512
def Prov (R:List Chunk) (c:Chunk):Prop:=(∀ k,c.own k→∃ x∈R,x.own k)∧∀ w,(∀ x∈R,x.ok w)→c.ok w
theorem prov_mem {R:List Chunk} {c:Chunk} (h:c∈R):Prov R c:=⟨fun k hk=>⟨c,h,hk⟩,fun w hw=>hw c h⟩
theorem Prov.trans {R S:List Chunk} {c:Chunk} (h:Prov S c) (hs:∀ x∈S,Prov R x):Prov R c:=
 ⟨fun k hk=>by obtain ⟨x,hx,hxo⟩:=h.1 k hk;exact (hs x hx).1 k hxo,fun w hw=>h.2 w (fun x hx=>(hs x hx).2 w hw)⟩
theorem Prov.one {R:List Chunk} {c d:Chunk} (h:Prov [d] c) (hd:Prov R d):Prov R c:=h.trans (fun x hx=>by simp only [List.mem_singleton] at hx;subst hx;exact hd)
theorem Prov.mono {R S:List Chunk} {c:Chunk} (h:Prov R c) (hs:∀ x∈R,x∈S):Prov S c:=h.trans (fun x hx=>prov_mem (hs x hx))
theorem rng_nil {ao:Option Addr} {R:List Chunk}:Prov R (rng ao []):=⟨fun k hk=>absurd rfl hk.1,fun w hw j v hj=>by simp at hj⟩
theorem row_rng {a:Option Addr} {cap e sz n:Nat} {xs:List Value}:Prov [row a cap e sz n xs] (rng a xs):=by
 refine ⟨fun k hk=>⟨_,List.mem_singleton.2 rfl,?_⟩,fun w hw j v hj=>?_⟩
 ·obtain ⟨_,ad,rfl,rfl⟩:=hk;rfl
 ·have hok:w.ownsRow 0 e sz (.slice a n cap) n xs:=hw (row a cap e sz n xs) (by simp);rcases hok.2 with ⟨hv,hz⟩ | ⟨g,_,_,hv,_⟩
  ·have:=hok.1;rw [hz,Nat.zero_mul] at this;rw [List.length_eq_zero_iff.1 this] at hj;simp at hj
  ·simp only [Value.slice.injEq] at hv;obtain ⟨rfl,_,_⟩:=hv;refine ⟨_,rfl,?_⟩;have:=hok.cells (g:=g) rfl j v hj;exact this
theorem blk_rng {b:Nat} {cs:List Value} {t:TypeId}:Prov [blk b cs t] (rng (some ⟨b,0,none⟩) cs):=by
 refine ⟨fun k hk=>⟨_,List.mem_singleton.2 rfl,?_⟩,fun w hw j v hj=>⟨_,rfl,?_⟩⟩
 ·obtain ⟨_,ad,hd,rfl⟩:=hk;cases hd;rfl
 ·have:=blk_cell (hw _ (List.mem_singleton.2 rfl)) j;rw [addr_add,Nat.zero_add,this,hj]
theorem rng_drop {a:Addr} {cs:List Value} (k:Nat):Prov [rng (some a) cs] (rng (some (a.add k)) (cs.drop k)):=by
 refine ⟨fun i hi=>⟨_,List.mem_singleton.2 rfl,?_⟩,fun w hw j v hj=>⟨_,rfl,?_⟩⟩
 ·obtain ⟨hne,ad,hd,rfl⟩:=hi;cases hd;refine ⟨fun h=>hne (by rw [h];simp),a,rfl,?_⟩;unfold Addr.add;split <;> rfl
 ·rw [List.getElem?_drop] at hj;rw [add_add];exact rng_cell (hw _ (by simp)) _ v hj
theorem rng_take {ao:Option Addr} {cs:List Value} (k:Nat):Prov [rng ao cs] (rng ao (cs.take k)):=by
 refine ⟨fun i hi=>⟨_,List.mem_singleton.2 rfl,?_⟩,fun w hw j v hj=>?_⟩
 ·obtain ⟨hne,ad,rfl,rfl⟩:=hi;exact ⟨fun h=>hne (by rw [h];simp),ad,rfl,rfl⟩
 ·rw [List.getElem?_take] at hj;split at hj
  ·exact hw (rng ao cs) (by simp) j v hj
  ·cases hj
def seeL (cs:List Chunk):Chunk:=.see ⟨fun k=>∃ c∈cs,c.own k,fun w=>∀ c∈cs,c.ok w,fun w w' h hok c hc=>c.loc w w' (fun k hk=>h k ⟨c,hc,hk⟩) (hok c hc)⟩
theorem see_mem {cs:List Chunk} {c:Chunk} (h:c∈cs):Prov [seeL cs] c:=⟨fun k hk=>⟨seeL cs,List.mem_singleton.2 rfl,c,h,hk⟩,fun w hw=>hw (seeL cs) (by simp) c h⟩
theorem prov_see {R cs:List Chunk} (h:∀ c∈cs,Prov R c):Prov R (seeL cs):=
 ⟨fun k ⟨c,hc,hk⟩=>(h c hc).1 k hk,fun w hw c hc=>(h c hc).2 w hw⟩
def genL (cs:List Chunk):Chunk:=.gen ⟨fun k=>∃ c∈cs,c.own k,fun w=>∀ c∈cs,c.ok w,fun w w' h hok c hc=>c.loc w w' (fun k hk=>h k ⟨c,hc,hk⟩) (hok c hc)⟩
theorem gen_mem {cs:List Chunk} {c:Chunk} (h:c∈cs):Prov [genL cs] c:=⟨fun k hk=>⟨genL cs,List.mem_singleton.2 rfl,c,h,hk⟩,fun w hw=>hw (genL cs) (by simp) c h⟩
theorem lend_prov {R B:List Chunk} {c:Chunk} (hwr:c.wr=false) (hp:Prov R c) (h:LendsAll R B):LendsAll R (c::B):=⟨⟨hwr,hp.1,hp.2⟩,h⟩
theorem lend_row {a:Option Addr} {cap e sz n:Nat} {xs:List Value} {R B:List Chunk} {k:Nat} (hp:nthC R k=some (row a cap e sz n xs)) (h:LendsAll R B):LendsAll R (rng a xs::B):=lend_prov rfl (row_rng.one (prov_mem (nthC_mem hp))) h
theorem lend_blk {b:Nat} {cs:List Value} {t:TypeId} {R B:List Chunk} {k:Nat} (hp:nthC R k=some (blk b cs t)) (h:LendsAll R B):LendsAll R (rng (some ⟨b,0,none⟩) cs::B):=lend_prov rfl (blk_rng.one (prov_mem (nthC_mem hp))) h
theorem lend_nil {ao:Option Addr} {R B:List Chunk} (h:LendsAll R B):LendsAll R (rng ao []::B):=lend_prov rfl rng_nil h
def ros (H:List Chunk):List Chunk:=H.filter fun c => !c.wr
theorem ros_mem {H:List Chunk} {c:Chunk} (h:c∈ros H):c∈H∧c.wr=false:=by
 have:=List.mem_filter.1 h;exact ⟨this.1,by simpa using this.2⟩
section
variable {w0 w:World} {M:Nat→Prop} {H:List Chunk}
theorem Sep.dom':∀ {H:List Chunk},Sep w0 M w H→∀ c∈H,∀ k,c.own k→k<w.heap.size
 | [],_,c,hc=>by simp at hc
 | d::H,h,c,hc=>by
  rcases List.mem_cons.1 hc with rfl | hc
  ·exact fun k hk=>(h.2.1 k hk).1
  ·exact Sep.dom' h.2.2.2 c hc
theorem Sep.apart':∀ {H:List Chunk},Sep w0 M w H→∀ c∈H,∀ d∈H,c.wr=false→d.wr=true→c.Apart d
 | [],_,c,hc=>by simp at hc
 | x::H,h,c,hc=>fun d hd hcw hdw=>by
  rcases List.mem_cons.1 hc with rfl | hc
  ·rcases List.mem_cons.1 hd with rfl | hd
   ·rw [hcw] at hdw;cases hdw
   ·exact h.2.2.1 d hd
  ·rcases List.mem_cons.1 hd with hdx | hd
   ·rw [hdx];exact (h.2.2.1 c hc).symm
   ·exact Sep.apart' h.2.2.2 c hc d hd hcw hdw
theorem St.look (hw:St w0 M w H) {c:Chunk} (hc:c.wr=false) (hp:Prov (ros H) c):St w0 M w (c::H):=by
 refine ⟨hw.base,hp.2 w (fun x hx=>hw.sep.mem x (ros_mem hx).1),fun k hk=>⟨?_,fun h=>by rw [hc] at h;cases h⟩,fun d hd hwr=>?_,hw.sep⟩
 ·obtain ⟨x,hx,hxo⟩:=hp.1 k hk;exact hw.sep.dom' x (ros_mem hx).1 k hxo
 ·rcases hwr with h | h
  ·rw [hc] at h;cases h
  ·intro k hk hdk;obtain ⟨x,hx,hxo⟩:=hp.1 k hk;exact hw.sep.apart' x (ros_mem hx).1 d hd (ros_mem hx).2 h (.inr h) k hxo hdk
theorem St.freeze {c d:Chunk} (hw:St w0 M w (d::H)) (hc:c.wr=false) (hp:Prov [d] c):St w0 M w (c::H):=by
 obtain ⟨hb,h1,h2,h3,h4⟩:=hw;refine ⟨hb,hp.2 w (fun x hx=>by simp only [List.mem_singleton] at hx;subst hx;exact h1),fun k hk=>⟨?_,fun h=>by rw [hc] at h;cases h⟩,fun e he hwr=>?_,h4⟩
 ·obtain ⟨x,hx,hxo⟩:=hp.1 k hk;simp only [List.mem_singleton] at hx;subst hx;exact (h2 k hxo).1
 ·rcases hwr with h | h
  ·rw [hc] at h;cases h
  ·intro k hk hek;obtain ⟨x,hx,hxo⟩:=hp.1 k hk;simp only [List.mem_singleton] at hx;subst hx;exact h3 e he (.inr h) k hxo hek
theorem St.gens {cs:List Chunk} {c d:Chunk} (hw:St w0 M w (c::d::H)) (hc:c.wr=true) (hd:d.wr=true) (hp:∀ x∈cs,Prov [c,d] x):St w0 M w (genL cs::H):=by
 obtain ⟨hb,h1,h2,h3,h4,h5,h6,h7⟩:=hw
 have key:∀ k,(genL cs).own k→c.own k∨d.own k:=fun k hk=>by
  obtain ⟨x,hx,hxk⟩:=hk;obtain ⟨y,hy,hyk⟩:=(hp x hx).1 k hxk;simp only [List.mem_cons,List.not_mem_nil,or_false] at hy;rcases hy with rfl | rfl
  ·exact .inl hyk
  ·exact .inr hyk
 refine ⟨hb,fun x hx=>(hp x hx).2 w (fun y hy=>?_),fun k hk=>?_,fun e he hwr k hk hek=>?_,h7⟩
 ·simp only [List.mem_cons,List.not_mem_nil,or_false] at hy;rcases hy with rfl | rfl
  ·exact h1
  ·exact h4
 ·rcases key k hk with h | h
  ·exact ⟨(h2 k h).1,fun _=>(h2 k h).2 hc⟩
  ·exact ⟨(h5 k h).1,fun _=>(h5 k h).2 hd⟩
 ·rcases key k hk with h | h
  ·exact h3 e (by simp [he]) (.inl hc) k h hek
  ·exact h6 e he (.inl hd) k h hek
end
end
section
set_option maxRecDepth 512
def itC (b:Nat) (s:ByteArray) (pos:Nat):Chunk:=obj b (.stringIter s pos)
section
variable {P:Program} {T:Tab P} {n:Cx} {E:Env} {w0:World} {M:Nat→Prop} {H H':List Chunk} {d:Nat} {ty:TypeId}
theorem eff_range (T:Tab P) {t:TypeId} {x:Operand} {s:ByteArray} {ti:TyI} (hx:E.ev x=some (.string s)) (ht:T.get t=some ti) (hd:ti.desc = .string) (hn:Nat.blt d n.m=true) :
  Eff P n w0 M H E (some d) (.range t x) ty (fun (_:Nat)=>True) (fun b=>(d,.pointer (some ⟨b,0,none⟩))::E) (fun b=>itC b s 0::H):=
 ⟨fun _ _ _ _ _ w hw h=>xl_step_w rfl rfl hn (fun act ha=>⟨_,_,by
  have hu:=T.und ht;rw [hd] at hu;simp only [execOp,ha.eval hx];rw [Sem.run_bind,run_range_string w t s hu]
  rfl,h _ _ trivial (by
   have:=hw.alloc (o:=.stringIter s 0);exact this)⟩)⟩
theorem eff_next {x:Operand} {b i pos:Nat} {s:ByteArray} (hx:E.ev x=some (.pointer (some ⟨b,0,none⟩))) (hp:Sx.pick H i=some (itC b s pos,H')) (hl:pos<s.size) (hn:Nat.blt d n.m=true) :
  Eff (α:=Unit) P n w0 M H E (some d) (.next x true) ty (fun _=>True) (fun _=>(d,.tuple #[.bool true,.int .i64 (pos:Int),.int .i32 ((Utf8.decode s pos).1:Int)])::E) (fun _=>itC b s (pos+(Utf8.decode s pos).2)::H'):=
 ⟨fun _ _ _ _ _ w hw h=>xl_step_w rfl rfl hn (fun act ha=>by
  have hw':=hw.pick i hp;have hb:w.heap[b]? = some (.stringIter s pos):=hw'.head;have hlt:b<w.heap.size:=(Array.getElem?_eq_some_iff.1 hb).1;have hset:∀ o:Obj,(setObj b o).run P w = .ok () (w.putObj b o):=fun o=>by simp [setObj,Sem.run,hb,World.putObj]
  have hget:(getObj b).run P w = .ok (.stringIter s pos) w:=by simp [getObj,Sem.run,hb]
  refine ⟨_,w.putObj b (.stringIter s (pos+(Utf8.decode s pos).2)),?_,h () _ trivial (hw'.turn rfl ⟨rfl,rfl,rfl,by simp,fun k _ hk=>World.putObj_heap_other hk⟩ (World.putObj_heap_same hlt) (fun k hk=>.inl hk))⟩;simp only [execOp,ha.eval hx,Instr.next,Sem.run_bind,hget,Result.andThen_ok,hl,if_true,hset,Sem.run_pure];simp [goInt,Sem.run])⟩
theorem eff_nextE {x:Operand} {b i pos:Nat} {s:ByteArray} (hx:E.ev x=some (.pointer (some ⟨b,0,none⟩))) (hp:Sx.pick H i=some (itC b s pos,H')) (hl:¬ pos<s.size) (hn:Nat.blt d n.m=true) :
  Eff (α:=Unit) P n w0 M H E (some d) (.next x true) ty (fun _=>True) (fun _=>(d,.tuple #[.bool false])::E) (fun _=>itC b s pos::H'):=
 ⟨fun _ _ _ _ _ w hw h=>xl_step_w rfl rfl hn (fun act ha=>by
  have hw':=hw.pick i hp;have hb:w.heap[b]? = some (.stringIter s pos):=hw'.head;have hget:(getObj b).run P w = .ok (.stringIter s pos) w:=by simp [getObj,Sem.run,hb]
  refine ⟨_,w,?_,h () _ trivial hw'⟩;simp only [execOp,ha.eval hx,Instr.next,Sem.run_bind,hget,Result.andThen_ok,hl,if_false,Sem.run_pure])⟩
end
theorem St.gen0 {w0 w:World} {M:Nat→Prop} {H:List Chunk} (hw:St w0 M w H):St w0 M w (genL []::H):=
 ⟨hw.base,(fun x hx=>by cases hx),(fun k hk=>by obtain ⟨x,hx,_⟩:=hk;cases hx),(fun e he hwr k hk=>by obtain ⟨x,hx,_⟩:=hk;cases hx),hw.sep⟩
section
variable {P:Program} {n:Cx} {Q:Exit→Act→World→Prop} {E:Env} {w0:World} {M:Nat→Prop} {H Hk:List Chunk} {l:List Oper} {d i fuel:Nat} {ty:TypeId} {pos:String} {after:Array Edge} {g:Option (Nat×Bool)} {ls ord:List Nat} {listed:Array Bool}
theorem wa_lde {op:Op} {v:Value} (hi:nthO l i=some ⟨some d,op,ty,pos,after,g⟩) (hr:(Region.ready .any l.toArray listed == [i])=true) (hg:guardYes l E g=true) (hv:Lds P n H E op ty v) (hn:Nat.blt d n.m=true) (hq':quietI l.toArray i=false)
  (h:WS w0 M H Hk (XO P l n Q (SC Hk) ls ((d,v)::E) ord fuel (listed.setIfInBounds i true))):WS w0 M H Hk (XO P l n Q (SC Hk) ls E (i::ord) (fuel+1) listed):=fun w hw hs=>
 ⟨xa_eff i hi hr (fun K hK ops ho=>xl_yes ho hg (xl_step rfl rfl hn (fun a ha=>hv.run _ _ _ _ a ha w hw.sc) (xl_nil (xq_any hK (by unfold Owed;rw [hq',if_neg (by decide)];exact fun _=>hs) ((h w hw hs).run)))))⟩
end
section
variable {P:Program} {n:Cx} {E:Env} {w0:World} {M:Nat→Prop} {H H':List Chunk} {d:Nat} {ty:TypeId}
theorem eff_appendRng {i j:Nat} (T:Tab P) {s x:Operand} {t e:TypeId} {ti ie:TyI} {ao asr:Option Addr} {len cap sz m c:Nat} {xs xs2:List Value}
  (hs:E.ev s=some (.slice ao len cap)) (hx:E.ev x=some (.slice asr m c)) (hp:Sx.pick H i=some (row ao cap e sz len xs,H')) (hp2:nthC H' j=some (rng asr xs2)) (ht:T.get t=some ti) (hti:ti.desc = .slice e) (he:T.get e=some ie) (hsz:Nat.beq ie.size sz=true) (hpos:Nat.blt 0 sz=true) (hzl:Nat.beq ie.zero.length sz=true)
  (hn:Nat.blt d n.m=true) (hm:xs2.length=m*sz) (h1:∀ u∈xs2,u.oneCell'=true) (hbytes:(len+m)*ie.bytes≤140737488355328) (hmax:len+m≤maxLen) :
  Eff P n w0 M H E (some d) (.call { callee:=.builtin .append,args:=#[s,x],argTypes:=#[t,t] }) ty (fun (z:Option Addr×Nat)=>len+m≤z.2) (fun z=>(d,.slice z.1 (len+m) z.2)::E) (fun z=>row z.1 z.2 e sz (len+m) (xs++xs2)::H'):=
 ⟨fun _ _ _ _ _ w hw h=>by
  have hw2:=hw.pick i hp;have hdst:w.ownsRow 0 e sz (.slice ao len cap) len xs:=hw2.head;have hsrc:(rng asr xs2).ok w:=hw2.sep.2.2.2.mem _ (nthC_mem hp2);cases asr with
  | none=>
   have hx2:xs2=[]:=by
    cases xs2 with
    | nil=>rfl
    | cons v l=>
     obtain ⟨a,ha,_⟩:=hsrc 0 v rfl;cases ha
   subst hx2
   have hm0:m=0:=by
    have hp':=blt_lt hpos;rcases Nat.eq_zero_or_pos m with h0 | h0
    ·exact h0
    ·have:=Nat.mul_pos h0 hp';simp at hm;omega
   subst hm0
   have hlen:len≤cap:=by
    rcases hdst.2 with ⟨hv,hz⟩ | ⟨g,c',cur,hv,_,_,hle,_⟩
    ·omega
    ·simp only [Value.slice.injEq] at hv;obtain ⟨_,_,rfl⟩:=hv;exact hle
   refine xl_step rfl rfl hn (v:=.slice ao len cap) (fun act ha=>?_) ?_
   ·obtain ⟨tinf,z,g1,g2,g3,g4,g5⟩:=T.inf he;have hu:=T.und ht;rw [hti] at hu;simp only [execOp,resolve,invoke,builtin,Sem.run_bind,Sem.run_pure,Result.andThen_ok,List.map_toArray,List.map_cons,List.map_nil,ha.eval hs,ha.eval hx];cases ao <;> simp [Builtin.append_,run_underlying hu,sizeOf,typeInfo,program,Sem.run,g1,Builtin.lenOf,hlen,Builtin.firstCells,storeCells]
   ·have:=h (ao,cap) w (by simpa using hlen) (by simpa using hw2)
    simpa using this
  | some a=>exact xl_append_cells T hw hs hp hx ht hti he hsz hpos hzl hn hm (fun k u hk=>rng_cell hsrc k u hk) h1 hbytes hmax (fun ao' cap' w' hw' hc _=>h (ao',cap') w' hc hw')⟩
end
theorem addr_zero (a:Addr):a.add 0=a:=by unfold Addr.add;rw [if_pos rfl]
theorem ld_gA {P:Program} (T:Tab P) {n:Cx} {C:List Chunk} {E:Env} {t:TypeId} {x:Operand} {ty:TypeId} {ti:TyI} {i:Nat} {a ad:Addr} {j:Nat} {xs:List Value} {v:Value} (hx:E.ev x=some (.pointer (some ad))) (ho:ad=a.add j) (hp:nthC C i=some (rng (some a) xs)) (ht:T.get t=some ti) (hi:isAggD ti.desc=false) (hv:xs[j]? = some v):Lds P n C E (.load t x) ty v:=ld_g T hx hp ht hi ho hv
theorem ld_gsA {P:Program} (T:Tab P) {n:Cx} {C:List Chunk} {E:Env} {t:TypeId} {x:Operand} {ty:TypeId} {ti:TyI} {i:Nat} {a ad:Addr} {j:Nat} {xs vs:List Value} (hx:E.ev x=some (.pointer (some ad))) (ho:ad=a.add j) (hp:nthC C i=some (rng (some a) xs)) (ht:T.get t=some ti) (hi:isAggD ti.desc=true) (hv:(xs.drop j).take ti.size=vs) (hl:j+ti.size≤xs.length):Lds P n C E (.load t x) ty (.agg vs.toArray):=ld_gs T hx hp ht hi ho hv hl
end
section
set_option maxRecDepth 512
inductive Has:List Chunk→List Chunk→List Chunk→Prop where
 | nil {H:List Chunk}:Has H [] H
 | cons {H H' A R:List Chunk} {c:Chunk} {i:Nat} (h:Sx.pick H i=some (c,H')) (t:Has H' A R):Has H (c::A) R
 | nrow {H A R:List Chunk} {e:TypeId} {sz:Nat} (t:Has H A R):Has H (row none 0 e sz 0 []::A) R
 | gen0 {H A R:List Chunk} (t:Has H A R):Has H (genL []::A) R
theorem nrow_own {e:TypeId} {sz k:Nat} (h:(row none 0 e sz 0 []).own k):False:=by
 have h':(Value.slice none 0 0).ownBlock=some k:=h;simp [Value.ownBlock] at h'
theorem gen0_own {k:Nat} (h:(genL []).own k):False:=by
 obtain ⟨x,hx,_⟩:=h;cases hx
theorem Sep.has {w0 w:World} {M:Nat→Prop}:∀ {H A R:List Chunk},Has H A R→St w0 M w H→St w0 M w (A++R)∧∀ d∈A++R,d∈H∨∀ k,¬ d.own k:=by
 intro H A R h
 induction h with
 | nil=>exact fun hw=>⟨hw,fun d hd=>.inl hd⟩
 | cons hp t ih=>
  rename_i H H' A R c i;intro hw;have hw':=hw.pick i hp;obtain ⟨hb,h1,h2,h3,h4⟩:=hw';obtain ⟨⟨_,g1⟩,g2⟩:=ih ⟨hb,h4⟩;obtain ⟨m1,m2⟩:=pick_mem hp;refine ⟨⟨hb,h1,h2,fun d hd=>?_,g1⟩,fun d hd=>?_⟩
  ·rcases g2 d hd with h5 | h5
   ·exact h3 d h5
   ·exact fun _ k _ hk=>h5 k hk
  ·rcases List.mem_cons.1 hd with rfl | hd
   ·exact .inl m1
   ·rcases g2 d hd with h5 | h5
    ·exact .inl (m2 d h5)
    ·exact .inr h5
 | nrow t ih=>
  rename_i H A R e sz;intro hw;obtain ⟨g1,g2⟩:=ih hw;refine ⟨g1.row_nil e sz,fun d hd=>?_⟩;rcases List.mem_cons.1 hd with rfl | hd
  ·exact .inr (fun k hk=>nrow_own hk)
  ·exact g2 d hd
 | gen0 t ih=>
  rename_i H A R;intro hw;obtain ⟨g1,g2⟩:=ih hw;refine ⟨g1.gen0,fun d hd=>?_⟩;rcases List.mem_cons.1 hd with rfl | hd
  ·exact .inr (fun k hk=>gen0_own hk)
  ·exact g2 d hd
theorem St.has {w0 w:World} {M:Nat→Prop} {H A R:List Chunk} (hw:St w0 M w H) (h:Has H A R):St w0 M w (A++R):=(Sep.has h hw).1
theorem St.hasA {w0 w:World} {M:Nat→Prop} {H A R:List Chunk} (hw:St w0 M w H) (h:Has H A R):St w0 M w A:=by
 obtain ⟨hb,hs⟩:=hw.has h;exact ⟨hb,(Sep.append.1 hs).1⟩
theorem picks_zeros:∀ (A R:List Chunk),picks (A.map fun _=>0) (A++R)=some (A,R)
 | [],R=>rfl
 | c::A,R=>by
  simp only [List.map_cons,List.cons_append,picks,Sx.pick];rw [picks_zeros A R]
def Env.restr (E:Env):List Nat→Option Env
 | []=>some []
 | t::ts=>match Env.restr E ts with
  | some r=>(match E.get t with
   | some v=>some ((t,v)::r)
   | none=>some r)
  | none=>none
def Env.app:Env→Env→Option Env
 | [],F=>some F
 | x::E,F=>match Env.app E F with
  | some r=>some (x::r)
  | none=>none
def setC1:List Chunk→Nat→Chunk→Option (List Chunk)
 | [],_,_=>none
 | _::H,0,d=>some (d::H)
 | c::H,i+1,d=>match setC1 H i d with
  | some r=>some (c::r)
  | none=>none
def setCs (H:List Chunk):List (Nat×Chunk)→Option (List Chunk)
 | []=>some H
 | p::l=>match setCs H l with
  | some r=>setC1 r p.1 p.2
  | none=>none
def dropC1:List Chunk→Nat→Option (List Chunk)
 | [],_=>none
 | _::H,0=>some H
 | c::H,i+1=>match dropC1 H i with
  | some r=>some (c::r)
  | none=>none
def dropCs (H:List Chunk):List Nat→Option (List Chunk)
 | []=>some H
 | i::l=>match dropC1 H i with
  | some r=>dropCs r l
  | none=>none
theorem dropC1_mem:∀ {H:List Chunk} {i:Nat} {R:List Chunk},dropC1 H i=some R→∀ c∈R,c∈H
 | [],i,R,h,c,hc=>by simp [dropC1] at h
 | x::H,0,R,h,c,hc=>by simp only [dropC1,Option.some.injEq] at h;subst h;simp [hc]
 | x::H,i+1,R,h,c,hc=>by
  simp only [dropC1] at h;split at h
  ·rename_i r hr;simp only [Option.some.injEq] at h;subst h;rcases List.mem_cons.1 hc with rfl | hc
   ·simp
   ·simp [dropC1_mem hr c hc]
  ·cases h
theorem dropCs_mem:∀ {l:List Nat} {H R:List Chunk},dropCs H l=some R→∀ c∈R,c∈H
 | [],H,R,h,c,hc=>by simp only [dropCs,Option.some.injEq] at h;subst h;exact hc
 | i::l,H,R,h,c,hc=>by
  simp only [dropCs] at h;split at h
  ·rename_i r hr;exact dropC1_mem hr c (dropCs_mem h c hc)
  ·cases h
theorem mem_nthC:∀ {H:List Chunk} {c:Chunk},c∈H→∃ i,nthC H i=some c
 | [],c,h=>by simp at h
 | x::H,c,h=>by
  rcases List.mem_cons.1 h with rfl | h
  ·exact ⟨0,rfl⟩
  ·obtain ⟨i,hi⟩:=mem_nthC h;exact ⟨i+1,hi⟩
theorem nthsC_of:∀ {Hs H:List Chunk},(∀ c∈Hs,c∈H)→∃ places,nthsC H places=some Hs
 | [],H,_=>⟨[],by simp [nthsC]⟩
 | c::Hs,H,h=>by
  obtain ⟨i,hi⟩:=mem_nthC (h c (by simp));obtain ⟨ps,hps⟩:=nthsC_of (Hs:=Hs) (H:=H) (fun d hd=>h d (by simp [hd]));exact ⟨i::ps,by simp [nthsC,hi,hps]⟩
section
variable {P:Program} {T:Tab P} {n:Cx} {Q:Exit→Act→World→Prop} {E:Env} {w0:World} {M:Nat→Prop} {H H':List Chunk} {l L:List Oper}
 {d:Nat} {ty:TypeId} {pos:String} {after:Array Edge} {G:World→Prop}
theorem env_nil:EnvSub E []:=trivial
theorem env_cons {F:Env} {t:Nat} {v:Value} (h:E.get t=some v) (hs:EnvSub E F):EnvSub E ((t,v)::F):=⟨h,hs⟩
theorem w_has {R:List Chunk} (hp:Has H H' R) (h:Wd w0 M (H'++R) G):Wd w0 M H G:=fun w hw=>h w (hw.has hp)
theorem w_hasA {R:List Chunk} (hp:Has H H' R) (h:Wd w0 M H' G):Wd w0 M H G:=fun w hw=>h w (hw.hasA hp)
theorem w_drawX (hm:P.follows .mixedOrders=true) (ord ls ex:List Nat) {id:Nat} {Hs:List Chunk} (hd:noDef l=true) (hs:dropCs H ex=some Hs) (h:WS w0 M H Hs (XO P l n Q (SC Hs) ls E ord l.toArray.size (Array.replicate l.toArray.size false))) :
  Wd w0 M H (XC P n Q E (.region id l.toArray true)):=by
 obtain ⟨places,hp⟩:=nthsC_of (dropCs_mem hs);exact w_draw hm ord ls places hd hp h
theorem w_loopC {α:Type} {c:Code} (ts:List Nat) (cv:α→Env) (hs:α→List (Nat×Chunk)) (φ:α→Prop) (μ:α→Nat) (x0:α) {Er:Env} {Ev:α→Env} {Hv:α→List Chunk} (hr:E.restr ts=some Er) (hEv:∀ x,Env.app (cv x) Er=some (Ev x)) (hHv:∀ x,setCs H (hs x)=some (Hv x))
  (hE:EnvSub E (Ev x0)) (hH:H=Hv x0) (hφ:φ x0)
  (round:∀ x,φ x→∀ K:Act→World→Prop,(∀ y E',φ y→μ y<μ x→EnvSub E' (Ev y)→Wd w0 M (Hv y) (fun w=>∀ a,EnvOk a E' n→K a w))→Wd w0 M (Hv x) (XC P n (Exit.then K Q) (Ev x) c)):Wd w0 M H (XC P n Q E (.loop c)):=
 w_loop Ev Hv φ μ x0 hE hH hφ round
theorem w_roundC {α:Type} {K:Act→World→Prop} {Ev:α→Env} {Hv:α→List Chunk} {φ:α→Prop} {μ:α→Nat} {x:α} {R:List Chunk} (hK:∀ y E',φ y→μ y<μ x→EnvSub E' (Ev y)→Wd w0 M (Hv y) (fun w=>∀ a,EnvOk a E' n→K a w))
  (y:α) (hφ:φ y) (hμ:μ y<μ x) (hp:Has H (Hv y) R) (hE:EnvSub E (Ev y)):Wd w0 M H (XQ n (Exit.then K Q) .normal E):=
 w_hasA hp (w_round hK y hφ hμ rfl hE)
def bs (ao:Option Addr):Addr:=ao.getD ⟨0,0,none⟩
theorem bs_some {a:Addr}:bs (some a)=a:=rfl
theorem rng_bs {w:World} {ao:Option Addr} {cs:List Value} (h:(rng ao cs).ok w) (hl:0<cs.length):ao=some (bs ao):=by
 obtain ⟨a,ha,_⟩:=h 0 cs[0] (by simp [hl]);rw [ha];rfl
theorem row_rng_ok {w:World} {a:Option Addr} {cap e sz n:Nat} {xs:List Value} (h:(row a cap e sz n xs).ok w):(rng a xs).ok w:=row_rng.2 w (fun x hx=>by simp only [List.mem_singleton] at hx;subst hx;exact h)
theorem row_bs {w:World} {ao:Option Addr} {cap e sz n:Nat} {xs:List Value} (h:(row ao cap e sz n xs).ok w) (hl:0<n):ao=some (bs ao):=by
 rcases h.2 with ⟨_,hz⟩ | ⟨g,_,_,hv,_⟩
 ·omega
 ·simp only [Value.slice.injEq] at hv;rw [hv.1];rfl
section
variable {C:List Chunk} {i:Nat} {x y:Operand} {t:TypeId} {ti:TyI}
theorem ld_oG (T:Tab P) {ao:Option Addr} {ad:Addr} {j:Nat} {xs:List Value} {v:Value} (hx:E.ev x=some (.pointer (some ad))) (ho:ad=(bs ao).add j) (hp:nthC C i=some (rng ao xs)) (ht:T.get t=some ti) (hi:isAggD ti.desc=false) (hv:xs[j]? = some v):Lds P n C E (.load t x) ty v:=
 .mk <| fun _ _ _ _ a ha w hw=>run_load_cell' T rfl (ha.eval hx) ht hi (by
  obtain ⟨a',rfl,hc⟩:=(hw.nth hp) j v hv;rw [ho];exact hc)
theorem ld_oGs (T:Tab P) {ao:Option Addr} {ad:Addr} {j:Nat} {xs vs:List Value} (hx:E.ev x=some (.pointer (some ad))) (ho:ad=(bs ao).add j) (hp:nthC C i=some (rng ao xs)) (ht:T.get t=some ti) (hi:isAggD ti.desc=true) (hv:(xs.drop j).take ti.size=vs) (hl:j+ti.size≤xs.length):Lds P n C E (.load t x) ty (.agg vs.toArray):=
 .mk <| fun _ _ _ _ a ha w hw=>run_load_cells' T rfl (ha.eval hx) ht hi (by rw [← hv,List.length_take,List.length_drop];omega) (fun k v hk=>by
  rw [← hv,List.getElem?_take] at hk;split at hk
  ·rw [List.getElem?_drop] at hk;obtain ⟨a',rfl,hc⟩:=(hw.nth hp) (j+k) v hk;rw [ho,add_add];exact hc
  ·cases hk)
theorem ld_oR (T:Tab P) {ao:Option Addr} {ad:Addr} {j cap e sz m:Nat} {xs:List Value} {v:Value} (hx:E.ev x=some (.pointer (some ad))) (ho:ad=(bs ao).add j) (hp:nthC C i=some (row ao cap e sz m xs)) (ht:T.get t=some ti) (hi:isAggD ti.desc=false) (hv:xs[j]? = some v):Lds P n C E (.load t x) ty v:=
 .mk <| fun _ _ _ _ a ha w hw=>run_load_cell' T rfl (ha.eval hx) ht hi (by
  obtain ⟨a',rfl,hc⟩:=(row_rng_ok (hw.nth hp)) j v hv;rw [ho];exact hc)
theorem ld_oRs (T:Tab P) {ao:Option Addr} {ad:Addr} {j cap e sz m:Nat} {xs vs:List Value} (hx:E.ev x=some (.pointer (some ad))) (ho:ad=(bs ao).add j) (hp:nthC C i=some (row ao cap e sz m xs)) (ht:T.get t=some ti) (hi:isAggD ti.desc=true) (hv:(xs.drop j).take ti.size=vs) (hl:j+ti.size≤xs.length):Lds P n C E (.load t x) ty (.agg vs.toArray):=
 .mk <| fun _ _ _ _ a ha w hw=>run_load_cells' T rfl (ha.eval hx) ht hi (by rw [← hv,List.length_take,List.length_drop];omega) (fun k v hk=>by
  rw [← hv,List.getElem?_take] at hk;split at hk
  ·rw [List.getElem?_drop] at hk;obtain ⟨a',rfl,hc⟩:=(row_rng_ok (hw.nth hp)) (j+k) v hk;rw [ho,add_add];exact hc
  ·cases hk)
theorem eff_store_oRs (T:Tab P) {e:TypeId} {ao:Option Addr} {ad:Addr} {o cap sz m:Nat} {xs vs:List Value} {v:Value} (hx:E.ev x=some (.pointer (some ad))) (hao:ad=(bs ao).add o) (hp:Sx.pick H i=some (row ao cap e sz m xs,H')) (hy:E.ev y=some v) (hv:cellsO v=some vs) (h1:oneC vs=true)
  (ht:T.get t=some ti) (hz:Nat.beq vs.length ti.size=true) (hpos:Nat.blt 0 vs.length=true) (ho:o+vs.length≤xs.length):Eff (α:=Unit) P n w0 M H E none (.store t x y) ty (fun _=>True) (fun _=>E) (fun _=>row ao cap e sz m (xs.take o++vs++xs.drop (o+vs.length))::H'):=by
 refine ⟨fun pos after ops Q L w hw h=>?_⟩;have hok:=(hw.pick i hp).head;have hpos':0<vs.length:=by simpa [Nat.blt_eq] using hpos
 have hok':w.ownsRow 0 e sz (.slice ao m cap) m xs:=hok
 have hm:∃ g,ao=some ⟨g,0,none⟩:=by
  rcases hok'.2 with ⟨_,hz⟩ | ⟨g,_,_,hv,_⟩
  ·have:=hok'.1;rw [hz,Nat.zero_mul] at this;omega
  ·simp only [Value.slice.injEq] at hv;exact ⟨g,hv.1⟩
 obtain ⟨g,rfl⟩:=hm;have e1:ad=⟨g,o,none⟩:=by rw [hao,bs_some,addr_add,Nat.zero_add]
 subst e1;exact (eff_store_rs (n:=n) (w0:=w0) (M:=M) (ty:=ty) T hx hp hy hv h1 ht hz ho).run pos after ops Q L w hw h
theorem eff_store_oR (T:Tab P) {e:TypeId} {ao:Option Addr} {ad:Addr} {o cap sz m:Nat} {xs:List Value} {v:Value} (hx:E.ev x=some (.pointer (some ad))) (hao:ad=(bs ao).add o) (hp:Sx.pick H i=some (row ao cap e sz m xs,H')) (hy:E.ev y=some v) (hv:cellsO v=some [v]) (h1:oneC [v]=true)
  (ht:T.get t=some ti) (hz:Nat.beq 1 ti.size=true) (ho:o<xs.length):Eff (α:=Unit) P n w0 M H E none (.store t x y) ty (fun _=>True) (fun _=>E) (fun _=>row ao cap e sz m (xs.set o v)::H'):=by
 have:=eff_store_oRs (n:=n) (w0:=w0) (M:=M) (ty:=ty) (vs:=[v]) T hx hao hp hy hv h1 ht hz rfl (by simp;omega);rw [show xs.take o++[v]++xs.drop (o+[v].length)=xs.set o v by rw [List.set_eq_take_append_cons_drop,if_pos ho];simp] at this;exact this
variable {e:TypeId} {ud:TypeDesc} {us ub:Nat} {uz:List Value} {k:IntKind} {m:Int} {ao:Option Addr} {len cap:Nat}
theorem w_idxG (T:Tab P) {xs:List Value} (hx:E.ev x=some (.slice ao len cap)) (hy:E.ev y=some (.int k m)) (ht:T.get t=some ti) (hi:ti.desc = .slice e) (he:T.get e=some ⟨ud,us,ub,uz⟩) (hp:nthC H i=some (rng ao xs)) (h0:0≤m) (h1:m<len) (hl:0<xs.length) (hn:Nat.blt d n.m=true)
  (h:Wd w0 M H (XR P l n Q ((d,.pointer (some ((bs ao).add (m.toNat*us))))::E) L)):Wd w0 M H (XR P l n Q E (⟨some d,.indexAddr t x y,ty,pos,after,none⟩::L)):=
 w_use (fun w hw=>rng_bs (hw.nth i hp) hl) (fun hao=>w_g (g_indexAddrG T (by rw [hx];exact congrArg some (congrArg (fun z=>Value.slice z len cap) hao)) hy ht hi he h0 h1) hn h)
theorem w_idxR (T:Tab P) {xs:List Value} {cap' e' sz nn:Nat} (hx:E.ev x=some (.slice ao len cap)) (hy:E.ev y=some (.int k m)) (ht:T.get t=some ti) (hi:ti.desc = .slice e) (he:T.get e=some ⟨ud,us,ub,uz⟩) (hp:nthC H i=some (row ao cap' e' sz nn xs)) (h0:0≤m) (h1:m<len) (hl:0<nn) (hn:Nat.blt d n.m=true)
  (h:Wd w0 M H (XR P l n Q ((d,.pointer (some ((bs ao).add (m.toNat*us))))::E) L)):Wd w0 M H (XR P l n Q E (⟨some d,.indexAddr t x y,ty,pos,after,none⟩::L)):=
 w_use (fun w hw=>row_bs (hw.nth i hp) hl) (fun hao=>w_g (g_indexAddrG T (by rw [hx];exact congrArg some (congrArg (fun z=>Value.slice z len cap) hao)) hy ht hi he h0 h1) hn h)
variable {Hk:List Chunk} {S:World→Prop} {ls ord:List Nat} {fuel j:Nat} {listed:Array Bool} {g:Option (Nat×Bool)}
theorem wa_idxG (T:Tab P) {xs:List Value} (hj:nthO l j=some ⟨some d,.indexAddr t x y,ty,pos,after,g⟩) (hg:guardYes l E g=true) (hx:E.ev x=some (.slice ao len cap)) (hy:E.ev y=some (.int k m)) (ht:T.get t=some ti) (hi:ti.desc = .slice e) (he:T.get e=some ⟨ud,us,ub,uz⟩) (hp:nthC H i=some (rng ao xs)) (h0:0≤m) (h1:m<len) (hl:0<xs.length) (hn:Nat.blt d n.m=true) (hc:chk l.toArray listed j=true)
  (h:WS w0 M H Hk (XO P l n Q S ls ((d,.pointer (some ((bs ao).add (m.toNat*us))))::E) ord fuel (listed.setIfInBounds j true))):WS w0 M H Hk (XO P l n Q S ls E (j::ord) (fuel+1) listed):=
 wa_use (fun w hw=>rng_bs (hw.nth i hp) hl) (fun hao=>wa_g hj hg (g_indexAddrG T (by rw [hx];exact congrArg some (congrArg (fun z=>Value.slice z len cap) hao)) hy ht hi he h0 h1) hn hc h)
theorem wa_idxR (T:Tab P) {xs:List Value} {cap' e' sz nn:Nat} (hj:nthO l j=some ⟨some d,.indexAddr t x y,ty,pos,after,g⟩) (hg:guardYes l E g=true) (hx:E.ev x=some (.slice ao len cap)) (hy:E.ev y=some (.int k m)) (ht:T.get t=some ti) (hi:ti.desc = .slice e) (he:T.get e=some ⟨ud,us,ub,uz⟩) (hp:nthC H i=some (row ao cap' e' sz nn xs)) (h0:0≤m) (h1:m<len) (hl:0<nn) (hn:Nat.blt d n.m=true) (hc:chk l.toArray listed j=true)
  (h:WS w0 M H Hk (XO P l n Q S ls ((d,.pointer (some ((bs ao).add (m.toNat*us))))::E) ord fuel (listed.setIfInBounds j true))):WS w0 M H Hk (XO P l n Q S ls E (j::ord) (fuel+1) listed):=
 wa_use (fun w hw=>row_bs (hw.nth i hp) hl) (fun hao=>wa_g hj hg (g_indexAddrG T (by rw [hx];exact congrArg some (congrArg (fun z=>Value.slice z len cap) hao)) hy ht hi he h0 h1) hn hc h)
end
end
end
section
set_option maxRecDepth 512
section
variable {P:Program} {T:Tab P} {n:Cx} {E:Env} {w0:World} {M:Nat→Prop} {H:List Chunk} {d:Nat} {ty:TypeId}
theorem eff_buildSlice0 (T:Tab P) {t e:TypeId} {i:TyI} {ud:TypeDesc} {us ub:Nat} {uz:List Value} (ht:T.get t=some i) (hi:i.desc = .slice e) (he:T.get e=some ⟨ud,us,ub,uz⟩) (hn:Nat.blt d n.m=true) :
  Eff P n w0 M H E (some d) (.buildSlice t 0 #[]) ty (fun (_:Nat)=>True) (fun b=>(d,.slice (some ⟨b,0,none⟩) 0 0)::E) (fun b=>row (some ⟨b,0,none⟩) 0 e us 0 []::H):=
 ⟨fun _ _ _ _ _ w hw h=>xl_step_w rfl rfl hn (fun act ha=>by
  obtain ⟨ti,z,g1,g2,_,g4,g5⟩:=T.inf he;have hu:=T.und ht;rw [hi] at hu;have hw':=(hw.allocC (cs:=[]) (t:=e)).row_of_blk (sz:=us) (m:=0) (by simp) (Nat.zero_le _);refine ⟨_,_,?_,h w.heap.size _ trivial hw'⟩;simp [execOp,Instr.buildSlice,Instr.fill,run_underlying hu,sizeOf,typeInfo,program,Sem.run,g1,newRow];rw [show (Array.range 0).map (fun _=>(default:Value)) = #[] by apply Array.ext';simp])⟩
structure XP (P:Program) (l:List Oper) (n:Cx) (Q:Exit→Act→World→Prop) (S:World→Prop) (ls:List Nat) (E:Env) (i:Nat) (fuel:Nat) (listed:Array Bool) (w:World):Prop where
 run:QOk Q→Closed l.toArray (listed.setIfInBounds i true)→∀ a,EnvOk a E n→wpOp P l.toArray Q i (fun a' w'=>Owed l.toArray ls S i w w'∧wpAnyS P l.toArray Q S ls fuel (listed.setIfInBounds i true) a' w') a w
section
variable {Q:Exit→Act→World→Prop} {S:World→Prop} {ls:List Nat} {fuel:Nat} {listed:Array Bool} {l L:List Oper} {w:World} {pos:String} {after:Array Edge} {Hk Hs H':List Chunk} {ord:List Nat} {g:Option (Nat×Bool)} {i:Nat}
theorem xp_eff (i:Nat) {oi:Oper} (hi:nthO l i=some oi)
  (h:∀ K:Act→World→Prop,(∀ E' w',Owed l.toArray ls S i w w'→XA P l n Q S ls E' fuel (listed.setIfInBounds i true) w'→∀ a,EnvOk a E' n→K a w')→∀ ops:Array Oper,ops.toList=l→XL P ops n (Exit.then K Q) E [oi] w):XP P l n Q S ls E i fuel listed w:=by
 refine ⟨fun q hcs a ha=>?_⟩;have hx:=(h (fun a' w'=>Owed l.toArray ls S i w w'∧wpAnyS P l.toArray Q S ls fuel (listed.setIfInBounds i true) a' w') (fun E' w' ho hxa a' ha'=>⟨ho,hxa.run q hcs a' ha'⟩) l.toArray (by simp)).run q.then a ha
 unfold wpList at hx;unfold wpOp;rw [← nthO_eq,hi];simp only [];split
 ·rename_i hw;rw [if_pos hw] at hx;exact hx.imp (fun h=>upon_then h) (fun h=>h)
 ·rename_i hw;rw [if_neg hw] at hx;exact hx
theorem xa_two {i j:Nat} (hr:(Region.ready .any l.toArray listed == [i,j])=true) (h1:XP P l n Q S ls E i fuel listed w) (h2:XP P l n Q S ls E j fuel listed w):XA P l n Q S ls E (fuel+1) listed w:=by
 refine ⟨fun q hcl a ha=>?_⟩;have hr':Region.ready .any l.toArray listed=[i,j]:=by simpa using hr
 refine ⟨fun h0=>(by rw [hr'] at h0;cases h0),fun k hk=>?_⟩;have hcs:=closed_set hcl hk;rw [hr'] at hk;simp only [List.mem_cons,List.not_mem_nil,or_false] at hk;rcases hk with rfl | rfl
 ·exact h1.run q hcs a ha
 ·exact h2.run q hcs a ha
structure XOP (P:Program) (l:List Oper) (n:Cx) (Q:Exit→Act→World→Prop) (S:World→Prop) (ls:List Nat) (E:Env) (ord:List Nat) (i:Nat) (fuel:Nat) (listed:Array Bool) (w:World):Prop where
 run:XP P l n Q S ls E i fuel listed w
theorem wa_two {o:List Nat} {i j:Nat} (ordi ordj:List Nat) (hr:(Region.ready .any l.toArray listed == [i,j])=true) (h1:WS w0 M H Hk (XOP P l n Q S ls E ordi i fuel listed)) (h2:WS w0 M H Hk (XOP P l n Q S ls E ordj j fuel listed)) :
  WS w0 M H Hk (XO P l n Q S ls E o (fuel+1) listed):=fun w hw hs=>⟨xa_two hr (h1 w hw hs).run (h2 w hw hs).run⟩
theorem wp_eff {α:Type} {dst:Option Tmp} {op:Op} {φ:α→Prop} {E':α→Env} {Hn:α→List Chunk} (hi:nthO l i=some ⟨dst,op,ty,pos,after,g⟩) (hg:guardYes l E g=true) (he:Eff P n w0 M H E dst op ty φ E' Hn) (hq':quietI l.toArray i=false) (hk:∀ z,Sub Hs (Hn z))
  (h:∀ z,φ z→WS w0 M (Hn z) Hs (XO P l n Q (SC Hs) ls (E' z) ord fuel (listed.setIfInBounds i true))):WS w0 M H Hk (XOP P l n Q (SC Hs) ls E ord i fuel listed):=fun w hw hs=>
 ⟨xp_eff i hi (fun K hK ops ho=>xl_yes ho hg (he.run _ _ _ _ _ w hw (fun z w' hz hw'=>xl_nil (xq_any hK (owed_some hq' (hk z w' hw'.sc)) ((h z hz w' hw' (hk z w' hw'.sc)).run)))))⟩
end
end
end
section
set_option maxRecDepth 512
section
variable {P:Program} {T:Tab P} {n:Cx} {E:Env} {w0:World} {M:Nat→Prop} {H H':List Chunk} {d:Nat} {ty:TypeId}
theorem eff_appendStr {i:Nat} (T:Tab P) {s x:Operand} {t u e:TypeId} {ti ui:TyI} {ao:Option Addr} {len cap:Nat} {xs:List Value} {tx:ByteArray}
  (hs:E.ev s=some (.slice ao len cap)) (hx:E.ev x=some (.string tx)) (hp:Sx.pick H i=some (row ao cap e 1 len xs,H')) (ht:T.get t=some ti) (hti:ti.desc = .slice e) (hu:T.get u=some ui) (hui:ui.desc = .string) (he:T.get e=some ⟨.int .u8,1,1,[.int .u8 0]⟩)
  (hn:Nat.blt d n.m=true) (hbytes:len+tx.size≤140737488355328) (hz0:(P.info? e).bind (·.zero)=some (.int .u8 0)) :
  Eff P n w0 M H E (some d) (.call { callee:=.builtin .append,args:=#[s,x],argTypes:=#[t,u] }) ty (fun (z:Option Addr×Nat)=>len+tx.size≤z.2) (fun z=>(d,.slice z.1 (len+tx.size) z.2)::E) (fun z=>row z.1 z.2 e 1 (len+tx.size) (xs++bytC tx)::H'):=
 ⟨fun _ _ _ _ _ w hw h=>xl_step_w rfl rfl hn (fun act ha=>by
  obtain ⟨tinf,z,g1,g2,g3,g4,g5⟩:=T.inf he;have hut:=T.und ht;rw [hti] at hut;have huu:=T.und hu;rw [hui] at huu;have hz:tinf.zero=some (.int .u8 0):=by rw [g1] at hz0;exact hz0
  have g2':tinf.size=1:=g2;have g3':tinf.bytes=1:=g3;have hmax:len+tx.size≤maxLen:=by unfold maxLen;omega
  have hw':=hw.pick i hp;have hown:w.ownsRow 0 e 1 (.slice ao len cap) len xs:=hw'.head;obtain ⟨v',w',hr,h2,h3,h4⟩:=Lib.run_append_own_string (P:=P) w 0 t u ty e tinf hut huu g1 hz g2' g3' _ len xs hown tx hmax hbytes (Nat.zero_le _)
  have hform:∃ ao' cap',v' = .slice ao' (len+tx.size) cap'∧len+tx.size≤cap':=by
   rcases h2.2 with ⟨hv,hz⟩ | ⟨g,c',cur,hv,_,_,hle,_⟩
   ·exact ⟨none,0,by rw [hv,hz],by omega⟩
   ·exact ⟨some ⟨g,0,none⟩,c',hv,hle⟩
  obtain ⟨ao',cap',rfl,hcap⟩:=hform;refine ⟨_,w',?_,h (ao',cap') w' hcap (hw'.turn rfl ((Turns.grown h3).mono (fun k hk=>hk)) h2 ?_)⟩
  ·simp only [execOp,resolve,invoke,builtin,Sem.run_bind,Sem.run_pure,Result.andThen_ok,List.map_toArray,List.map_cons,List.map_nil,ha.eval hs,ha.eval hx,hr]
  ·intro k hk;have hk':(Value.slice ao' (len+tx.size) cap').ownBlock=some k:=hk;by_cases ho:(Value.slice ao len cap).ownBlock=some k
   ·exact .inl ho
   ·right;have hlt:=(h2.lt k hk').2;refine ⟨?_,hlt⟩;rcases hown.2 with ⟨hv0,hl0⟩ | ⟨g,c0,cur,hv0,_,hg,hle,hcm,hcs,htake⟩
    ·have hown':w.ownsRow w.heap.size e 1 (.slice ao len cap) len xs:=⟨hown.1,.inl ⟨hv0,hl0⟩⟩
     obtain ⟨v2,w2,hr2,k2,_,_⟩:=Lib.run_append_own_string (P:=P) w w.heap.size t u ty e tinf hut huu g1 hz g2' g3' _ len xs hown' tx hmax hbytes (Nat.le_refl _);rw [hr] at hr2;cases hr2;exact (k2.lt k hk').1
    ·simp only [Value.slice.injEq] at hv0;obtain ⟨rfl,_,rfl⟩:=hv0;by_cases hroom:len+tx.size≤cap
     ·have hr2:=Lib.run_append_room_string (P:=P) w t u ty e tinf hut huu g1 g2' g len cap cur hg tx hroom (by omega);rw [hr] at hr2;simp only [Result.ok.injEq,Value.slice.injEq] at hr2;obtain ⟨⟨ha',_,_⟩,_⟩:=hr2;subst ha';exact absurd hk' (by simpa [Value.ownBlock] using ho)
     ·have holds:∀ j u,xs[j]? = some u→w.cell? ((⟨g,0,none⟩:Addr).add j)=some u:=hown.cells (g:=g) rfl;have hmax':len+tx.size≤9223372036854775807:=by omega
      have hr2:=Lib.run_append_grow_string (P:=P) w t u ty e tinf _ hut huu g1 hz ⟨g,0,none⟩ len cap xs (by rw [hown.1,g2']) holds tx (by omega) (by omega) (growslice_fits (by omega) (by rw [g3'];omega));rw [hr] at hr2;simp only [Result.ok.injEq,Value.slice.injEq] at hr2;obtain ⟨⟨ha',_,_⟩,_⟩:=hr2;subst ha';simp only [Value.ownBlock,Option.some.injEq] at hk';omega)⟩
theorem eff_appendF {i j:Nat} (T:Tab P) {s x:Operand} {t e:TypeId} {ti:TyI} {ud:TypeDesc} {us ub:Nat} {uz:List Value} {g len cap:Nat} {cs:List Value} {b m c:Nat} {news:List Value} {H'':List Chunk}
  (hs:E.ev s=some (.slice (some ⟨g,0,none⟩) len cap)) (hx:E.ev x=some (.slice (some ⟨b,0,none⟩) m c)) (hpb:Sx.pick H j=some (blk b news e,H'')) (hp:Sx.pick H'' i=some (fro g cs e,H')) (ht:T.get t=some ti) (hti:ti.desc = .slice e) (he:T.get e=some ⟨ud,us,ub,uz⟩)
  (hn:Nat.blt d n.m=true) (hpos:Nat.blt 0 us=true) (hzl:Nat.beq uz.length us=true) (hl:Nat.beq news.length (m*us)=true) (hlen:Nat.ble (len*us) cs.length=true) (hgrow:cap<len+m) (hbytes:(len+m)*ub≤140737488355328) (hmax:len+m≤maxLen) :
  Eff P n w0 M H E (some d) (.call { callee:=.builtin .append,args:=#[s,x],argTypes:=#[t,t] }) ty (fun (z:Option Addr×Nat)=>len+m≤z.2∧True) (fun z=>(d,.slice z.1 (len+m) z.2)::E) (fun z=>row z.1 z.2 e us (len+m) (cs.take (len*us)++news)::H'):=
 ⟨fun _ _ _ _ _ w hw h=>xl_step_w rfl rfl hn (fun act ha=>by
  obtain ⟨tinf,z,g1,g2,g3,g4,g5⟩:=T.inf he;have hut:=T.und ht;rw [hti] at hut;have g2':tinf.size=us:=g2;have hw1:=hw.pick j hpb;have hw2:=hw1.drop.pick i hp
  have hnew:∀ k u,news[k]? = some u→w.cell? ((⟨b,0,none⟩:Addr).add k)=some u:=fun k u hk=>by
   rw [addr_add,Nat.zero_add,blk_cell hw1.head,hk]
  have hold:∀ k u,(cs.take (len*us))[k]? = some u→w.cell? ((⟨g,0,none⟩:Addr).add k)=some u:=fun k u hk=>by
   rw [List.getElem?_take] at hk;split at hk
   ·rw [addr_add,Nat.zero_add,fro_cell hw2.head,hk]
   ·cases hk
  have hlen':=Nat.le_of_ble_eq_true hlen;have hmax':len+m≤9223372036854775807:=by simp only [maxLen] at hmax;omega
  have hl':news.length=m*us:=Nat.eq_of_beq_eq_true hl;have hzs:z.cells.size=us:=by rw [g5];simpa using Nat.eq_of_beq_eq_true hzl
  have hr:=run_append_grow (P:=P) w t ty e tinf z hut g1 g4 ⟨g,0,none⟩ len cap (cs.take (len*us)) (by rw [g2',List.length_take];omega) hold ⟨b,0,none⟩ m c news (by rw [hl',g2']) hnew hgrow (by omega) (growslice_fits hgrow (by rw [g3];exact hbytes));have hge:=grownCap_ge w (len+m) cap e;have hcm:grownCap w (len+m) cap e≤maxLen:=grownCap_le_maxLen w (len+m) cap e hmax;refine ⟨_,w.drew.alloc (.cells ((cs.take (len*us)).toArray++news.toArray++Builtin.zeroCells z.cells (grownCap w (len+m) cap e-(len+m))) e),?_,h (some ⟨w.heap.size,0,none⟩,grownCap w (len+m) cap e) _ ⟨hge,trivial⟩ (hw2.drop.new ((Turns.drew _ w).trans (Turns.alloc _ w.drew _)) ?_ (fun k hk=>?_))⟩
  ·simp only [execOp,resolve,invoke,builtin,Sem.run_bind,Sem.run_pure,Result.andThen_ok,List.map_toArray,List.map_cons,List.map_nil,ha.eval hs,ha.eval hx,hr]
  ·have hlt:(cs.take (len*us)++news).length=(len+m)*us:=by rw [List.length_append,List.length_take,hl',Nat.min_eq_left hlen',Nat.add_mul]
   refine ⟨hlt,.inr ⟨w.heap.size,_,_,rfl,Nat.zero_le _,heap_alloc_new w.drew _,hge,hcm,?_,?_⟩⟩
   ·have h5:(cs.take (len*us)).toArray.size+news.toArray.size=(len+m)*us:=by
     have:=hlt;rw [List.length_append] at this
     simpa using this
    simp only [Array.size_append,Builtin.zeroCells,Array.size_map,Array.size_range,hzs,h5,← Nat.add_mul]
    congr 1
    omega
   ·rw [Array.toList_append,Array.toList_append,List.toList_toArray,List.toList_toArray,List.take_left' hlt]
  ·have hk':(Value.slice (some ⟨w.heap.size,0,none⟩) (len+m) (grownCap w (len+m) cap e)).ownBlock=some k:=hk;simp only [Value.ownBlock,Option.some.injEq] at hk';subst hk';exact ⟨Nat.le_refl _,by show w.heap.size<(w.heap.push _).size;simp⟩)⟩
theorem eff_conv0 {i:Nat} (T:Tab P) {x:Operand} {t e:TypeId} {ti ei:TyI} {b len cap:Nat} {cs:List Value} (hx:E.ev x=some (.slice (some ⟨b,0,none⟩) len cap)) (hp:Sx.pick H i=some (blk b cs e,H')) (ht:T.get t=some ti) (hti:ti.desc = .slice e) (he:T.get e=some ei) (hed:ei.desc = .int .u8) (hn:Nat.blt d n.m=true) :
  Eff P n w0 M H E (some d) (.convert t t x) ty (fun (_:Unit)=>True) (fun _=>(d,.slice (some ⟨b,0,none⟩) len cap)::E) (fun _=>fro b cs e::H'):=
 ⟨fun _ _ _ _ _ w hw h=>xl_step_w rfl rfl hn (fun act ha=>by
  have hut:=T.und ht;rw [hti] at hut;have hue:=T.und he;rw [hed] at hue;have hw':=hw.pick i hp;have hb:w.heap[b]? = some (.cells cs.toArray e (0,0)):=hw'.head;have hlt:b<w.heap.size:=(Array.getElem?_eq_some_iff.1 hb).1;have hsh:w.shape? b=some (e,cs.toArray.size):=by unfold World.shape?;rw [hb]
  have hnew:(w.freeze ⟨b,cs.length,none⟩ 1).heap[b]? = some (.cells cs.toArray e (cs.length,cs.length+1)):=by
   unfold World.freeze;rw [if_neg (by decide)];show (w.heap.modify b _)[b]? = _
   rw [Array.getElem?_modify,if_pos rfl,hb];rfl
  refine ⟨_,w.freeze ⟨b,cs.length,none⟩ 1,?_,h () _ trivial (hw'.turn rfl ⟨rfl,rfl,rfl,?_,fun k hk ho=>?_⟩ hnew (fun k hk=>.inl hk))⟩
  ·simp [execOp,ha.eval hx,convert,run_underlying hut,run_underlying hue,markStringish,hsh]
  ·unfold World.freeze;rw [if_neg (by decide)];show w.heap.size≤(w.heap.modify b _).size
   simp
  ·have hne:b≠k:=fun e=>ho e.symm
   unfold World.freeze;rw [if_neg (by decide)];show (w.heap.modify b _)[k]? = _
   rw [Array.getElem?_modify,if_neg hne])⟩
end
end
section
set_option maxRecDepth 512
section
variable {P:Program} {ops:Array Oper} {Q:Exit→Act→World→Prop} {S S':World→Prop} {ls:List Nat}
end
section
variable {P:Program} {n:Cx} {Q:Exit→Act→World→Prop} {E:Env} {w0:World} {M:Nat→Prop} {H Hs Hs' Hk:List Chunk} {l:List Oper} {fuel:Nat} {ls ord:List Nat} {listed:Array Bool}
end
section
variable {P:Program} {T:Tab P} {n:Cx} {E:Env} {ty:TypeId}
theorem nil_equal {T:Tab P} {t:TypeId} {ms:Array (String×TypeId)} {u:TypeDesc} {s b:Nat} {z:List Value} {w:World} (ht:T.get t=some ⟨u,s,b,z⟩) (hd:u = .interface ms):(Op.equal t .nilIface .nilIface).run P w = .ok true w:=by
 have hu:=T.und ht;dsimp only at hu;rw [hd] at hu;show (Op.equalIn (9999+1) t .nilIface .nilIface).run P w=_
 unfold Op.equalIn;simp only [Sem.run_bind,run_underlying hu,Result.andThen_ok,Sem.run_pure]
theorem g_eqN (T:Tab P) {x:Operand} {t yt:TypeId} {ms:Array (String×TypeId)} {u:TypeDesc} {s b:Nat} {z:List Value} (hx:E.ev x=some .nilIface) (ht:T.get t=some ⟨u,s,b,z⟩) (hd:u = .interface ms):Gives P n E (.binOp .eql t x (.const .nilIface) yt) ty (.bool true):=
 .mk <| fun _ _ _ _ act ha w=>by
  have hc:act.eval (.const .nilIface) = .nilIface:=rfl;simp [execOp,ha.eval hx,hc,eqGuard,binOp,nil_equal ht hd,Sem.run_bind]
theorem g_neqN (T:Tab P) {x:Operand} {t yt:TypeId} {ms:Array (String×TypeId)} {u:TypeDesc} {s b:Nat} {z:List Value} (hx:E.ev x=some .nilIface) (ht:T.get t=some ⟨u,s,b,z⟩) (hd:u = .interface ms):Gives P n E (.binOp .neq t x (.const .nilIface) yt) ty (.bool false):=
 .mk <| fun _ _ _ _ act ha w=>by
  have hc:act.eval (.const .nilIface) = .nilIface:=rfl;simp [execOp,ha.eval hx,hc,eqGuard,binOp,nil_equal ht hd,Sem.run_bind]
end
end
end Go.Sx
namespace Go.Sx
open Go Chunk Go.RowKit
section
set_option maxRecDepth 512
section
variable {P:Program} {T:Tab P} {n:Cx} {E:Env} {w0:World} {M:Nat→Prop} {H H':List Chunk} {d:Nat} {ty:TypeId}
theorem g_neqP (T:Tab P) {x y:Operand} {t yt e:TypeId} {u:TypeDesc} {s b:Nat} {z:List Value} {ei:TyI} {a:Addr} (hx:E.ev x=some (.pointer (some a))) (hy:E.ev y=some (.pointer (some a))) (ht:T.get t=some ⟨u,s,b,z⟩) (hd:u = .pointer e) (he:T.get e=some ei):Gives P n E (.binOp .neq t x y yt) ty (.bool false):=
 .mk <| fun _ _ _ _ act ha w=>by
  have hu:=T.und ht;dsimp only at hu;rw [hd] at hu;obtain ⟨j,z,g1,_,_,_,_⟩:=T.inf he;have:=Lib.run_neq_ptr_same w a hu g1;simp [execOp,ha.eval hx,ha.eval hy,eqGuard,this,Sem.run_bind]
end
end
end Go.Sx
namespace Go.Sx
open Go Chunk
section
set_option maxRecDepth 512
set_option linter.unusedSectionVars false
section
variable {κ:Type} [DecidableEq κ] {kd:TypeDesc} {enc:κ→Value}
variable {P:Program} {T:Tab P} {n:Cx} {Q:Exit→Act→World→Prop} {E:Env} {w0:World} {M:Nat→Prop} {H H':List Chunk} {l L:List Oper}
variable {d:Nat} {ty:TypeId} {C:List Chunk}
theorem eff_insert (T:Tab P) (K:KeyK κ kd enc) {i:Nat} {m x v:Operand} {t kt e:TypeId} {ti ki:TyI} {b:Nat} {ms:List (κ×Value)} {key:κ} {u:Value} (hm:E.ev m=some (.map (some b))) (hx:E.ev x=some (enc key)) (hv:E.ev v=some u) (hp:Sx.pick H i=some (mapC enc b ms,H'))
  (ht:T.get t=some ti) (hti:ti.desc = .map kt e) (hk:T.get kt=some ki) (hkd:ki.desc=kd):Eff (α:=Unit) P n w0 M H E none (.insert t m x v) ty (fun _=>True) (fun _=>E) (fun _=>mapC enc b (putK ms key u)::H'):=
 ⟨fun _ _ _ _ _ w hw h=>xl_step_u rfl rfl (fun act ha=>by
  have hw':=hw.pick i hp;have hb:w.heap[b]? = some (.map (entsF enc 0 ms).toArray ms.length):=hw'.head;have hlt:b<w.heap.size:=(Array.getElem?_eq_some_iff.1 hb).1;have hu:=T.und ht;rw [hti] at hu;have hku:=T.und hk;rw [hkd] at hku;have hset:∀ o:Obj,(setObj b o).run P w = .ok () (w.putObj b o):=fun o=>by simp [setObj,Sem.run,hb,World.putObj]
  have hturn:∀ o:Obj,Turns (fun k=>k=b) w (w.putObj b o):=fun o=>⟨rfl,rfl,rfl,by simp,fun k _ hk=>World.putObj_heap_other hk⟩
  cases hf:placeK ms key 0 with
  | none=>
   refine ⟨w.putObj b (.map ((entsF enc 0 ms).toArray.push { key:=enc key,val:=u,born:=ms.length }) (ms.length+1)),?_,h () _ trivial (hw'.turn rfl (hturn _) ?_ (fun k hk=>.inl hk))⟩
   ·simp only [execOp,ha.eval hm,ha.eval hx,ha.eval hv,Instr.mapUpdate,Sem.run_bind,run_underlying hu,Result.andThen_ok,getObj_run hb,Sem.run_pure,checkKey_run K hku,findKey_run K hku,hf,hset]
   ·show (w.putObj b _).heap[b]? = some _
    rw [World.putObj_heap_same hlt,placeK_none hf u 0,placeK_none_len hf u];simp
  | some r=>
   obtain ⟨j,v0⟩:=r;obtain ⟨h1,h2,h3,h4⟩:=placeK_some (enc:=enc) hf;simp only [Nat.sub_zero] at h2 h3 h4;have h3':=h3 0;refine ⟨w.putObj b (.map ((entsF enc 0 ms).toArray.modify j (fun e=>{ e with key:=enc key,val:=u })) ms.length),?_,h () _ trivial (hw'.turn rfl (hturn _) ?_ (fun k hk=>.inl hk))⟩
   ·simp only [execOp,ha.eval hm,ha.eval hx,ha.eval hv,Instr.mapUpdate,Sem.run_bind,run_underlying hu,Result.andThen_ok,getObj_run hb,Sem.run_pure,checkKey_run K hku,findKey_run K hku,hf,List.getElem?_toArray,h3',Option.getD_some,Instr.keyThatStays,K.bits,if_true,hset]
   ·show (w.putObj b _).heap[b]? = some _
    rw [World.putObj_heap_same hlt,h4 u 0,putK_len_some hf u];simp)⟩
end
end
section
set_option maxRecDepth 512
section
variable {P:Program} {n:Cx} {E:Env} {w0:World} {M:Nat→Prop} {H Hk:List Chunk} {d:Nat} {ty:TypeId} {Q:Exit→Act→World→Prop} {S:World→Prop} {ls ord:List Nat} {fuel i:Nat} {listed:Array Bool} {l:List Oper} {pos:String} {after:Array Edge} {g:Option (Nat×Bool)}
theorem wp_ldq {op:Op} {v:Value} (hi:nthO l i=some ⟨some d,op,ty,pos,after,g⟩) (hg:guardYes l E g=true) (hv:Lds P n H E op ty v) (hn:Nat.blt d n.m=true) (hq':quietI l.toArray i=true)
  (h:WS w0 M H Hk (XO P l n Q S ls ((d,v)::E) ord fuel (listed.setIfInBounds i true))):WS w0 M H Hk (XOP P l n Q S ls E ord i fuel listed):=fun w hw hs=>
 ⟨xp_eff i hi (fun K hK ops ho=>xl_yes ho hg (xl_step rfl rfl hn (fun a ha=>hv.run _ _ _ _ a ha w hw.sc) (xl_nil (xq_any hK (owed_quiet hq') ((h w hw hs).run)))))⟩
end
end
section
set_option maxRecDepth 512
section
variable {P:Program} {T:Tab P} {n:Cx} {E:Env} {w0:World} {M:Nat→Prop} {H:List Chunk} {d:Nat} {ty:TypeId}
theorem g_convW (T:Tab P) {x:Operand} {src dst:TypeId} {si di:TyI} {k k':IntKind} {a:Int} (hx:E.ev x=some (.int k a)) (hs:T.get src=some si) (hd:T.get dst=some di) (hdd:di.desc = .int k'):Gives P n E (.convert src dst x) ty (.int k' (k'.wrap a)):=
 .mk <| fun _ _ _ _ act ha w=>by
  have hu1:=T.und hs;have hu2:=T.und hd;rw [hdd] at hu2;simp [execOp,ha.eval hx,convert,run_underlying hu1,run_underlying hu2,Conv.intToInt]
def bitsO (op:BinOp) (k:IntKind) (a b:Int):Option Int:=
 match op with
 | .and=>some (k.wrap ((BitVec.ofInt k.bits a &&& BitVec.ofInt k.bits b).toNat:Int))
 | .or=>some (k.wrap ((BitVec.ofInt k.bits a ||| BitVec.ofInt k.bits b).toNat:Int))
 | _=>none
theorem g_bits {op:BinOp} {x y:Operand} {t u:TypeId} {k:IntKind} {a b r:Int} (hx:E.ev x=some (.int k a)) (hy:E.ev y=some (.int k b)) (hr:bitsO op k a b=some r):Gives P n E (.binOp op t x y u) ty (.int k r):=
 .mk <| fun _ _ _ _ act ha w=>by
  cases op <;> simp only [bitsO,reduceCtorEq,Option.some.injEq] at hr <;> subst hr <;> simp [execOp,ha.eval hx,ha.eval hy,eqGuard,binOp,Op.intBits]
theorem madeCells_one {v:Value} {m:Nat}:(madeCells #[v] m)=(List.replicate m v).toArray:=by
 apply Array.ext';unfold madeCells;simp only [Array.toList_map,Array.toList_range,List.size_toArray,List.length_cons,List.length_nil];apply List.ext_getElem
 ·simp
 ·intro i h1 h2;simp [Nat.mod_one]
theorem eff_makeSlice (T:Tab P) {t e:TypeId} {x:Operand} {i:TyI} {k:IntKind} {ud:TypeDesc} {ub m:Nat} {zv:Value} {a:Int} (ht:T.get t=some i) (hi:i.desc = .slice e) (he:T.get e=some ⟨ud,1,ub,[zv]⟩) (hx:E.ev x=some (.int k a)) (ha:a=(m:Int)) (hm:m≤1000000000) (hb:Nat.ble ub 1000=true) (hn:Nat.blt d n.m=true) :
  Eff P n w0 M H E (some d) (.makeSlice t x x) ty (fun (_:Nat)=>True) (fun b=>(d,.slice (some ⟨b,0,none⟩) m m)::E) (fun b=>row (some ⟨b,0,none⟩) m e 1 m (List.replicate m zv)::H):=
 ⟨fun _ _ _ _ _ w hw h=>xl_step_w rfl rfl hn (fun act hact=>by
  obtain ⟨ti,z,g1,g2,g3,g4,g5⟩:=T.inf he;have hu:=T.und ht;rw [hi] at hu;have hb':ub≤1000:=Nat.le_of_ble_eq_true hb
  have hub:(ti.bytes:Int)*(m:Int)≤281474976710656:=by
   rw [g3];have h1:ub*m≤1000*1000000000:=Nat.mul_le_mul hb' hm;have h2:((ub*m:Nat):Int)≤281474976710656:=by omega
   rwa [Int.natCast_mul] at h2
  have hr:=run_make (P:=P) w t e ti z hu g1 g4 k k (m:Int) (m:Int) (by omega) (Int.le_refl _) hub (by omega);rw [Int.toNat_natCast,g2,Nat.mul_one] at hr;have hz:z.cells = #[zv]:=by rw [g5]
  rw [hz,madeCells_one] at hr;have hw':=(hw.allocC (cs:=List.replicate m zv) (t:=e)).row_of_blk (sz:=1) (m:=m) (by simp) (by unfold maxLen;omega);refine ⟨_,_,?_,h w.heap.size _ trivial hw'⟩;subst ha;simp only [execOp,hact.eval hx];rw [Sem.run_bind,hr];rfl)⟩
end
end
section
set_option maxRecDepth 512
section
variable {P:Program} {T:Tab P} {n:Cx} {Q:Exit→Act→World→Prop} {E:Env} {w0:World} {M:Nat→Prop} {H H':List Chunk} {l L:List Oper}
 {d:Nat} {ty:TypeId} {pos:String} {after:Array Edge}
theorem xl_step_n {ops:Array Oper} {o:Oper} {L:List Oper} {w:World} (hg:o.guard=none) (hd:o.dst=none)
  (hr:∀ a,EnvOk a E n→∃ v w',(execOp a.eval o).run P w = .ok (.value v) w'∧XL P ops n Q E L w'):XL P ops n Q E (o::L) w:=by
 refine ⟨fun q a ha=>?_⟩;refine wpList_plain hg fun K hK=>?_
 obtain ⟨v,w',h1,h2⟩:=hr a ha;unfold Oper.wp;rw [h1,Oper.upon_value,hd];exact hK _ _ (h2.run q _ ha.put_none)
theorem row_put {w:World} {g cap sz m o:Nat} {e:TypeId} {xs vs:List Value} (hw:St w0 M w (row (some ⟨g,0,none⟩) cap e sz m xs::H')) (h1:oneC vs=true) (ho:o+vs.length≤xs.length) :
  ∃ w',(storeCells ⟨g,o,none⟩ vs 0).run P w = .ok () w'∧St w0 M w' (row (some ⟨g,0,none⟩) cap e sz m (xs.take o++vs++xs.drop (o+vs.length))::H'):=by
 have hown:w.ownsRow 0 e sz (.slice (some ⟨g,0,none⟩) m cap) m xs:=hw.head;obtain ⟨hl,hown2⟩:=hown;rcases hown2 with ⟨hv0,_⟩ | ⟨g',cap',cur,hv0,_,hb,hmc,hcm,hcs,htk⟩
 ·cases hv0
 ·simp only [Value.slice.injEq,Option.some.injEq,Addr.mk.injEq,true_and,and_true] at hv0;obtain ⟨rfl,rfl⟩:=hv0;have hmz:m*sz≤cap*sz:=Nat.mul_le_mul_right _ hmc;have hlen:xs.length≤cur.size:=by rw [hl,hcs];exact hmz
  have hst:=run_storeCells_at P g o e vs 0 cur w hb (by omega) (oneC_eq h1);simp only [Nat.add_zero] at hst;refine ⟨w.setRow g (cur.toList.take o++vs++cur.toList.drop (o+vs.length)).toArray,hst,hw.turn rfl ((Turns.setRow w g _).mono (fun k hk=>?_)) ?_ (fun k hk=>.inl hk)⟩
  ·show (Value.slice (some ⟨g,0,none⟩) m cap).ownBlock=some k
   subst hk;rfl
  ·have hh:=setRow_heap w g cur (cur.toList.take o++vs++cur.toList.drop (o+vs.length)).toArray e _ hb;have hcl:cur.toList.length=cur.size:=by simp
   refine ⟨by rw [List.length_append,List.length_append,List.length_take,List.length_drop,Nat.min_eq_left (by omega)];omega,.inr ⟨g,cap,_,rfl,Nat.zero_le _,hh,hmc,hcm,?_,?_⟩⟩
   ·simp only [List.size_toArray,List.length_append,List.length_take,List.length_drop,hcl];rw [Nat.min_eq_left (by omega),← hcs];omega
   ·rw [List.toList_toArray,take_seg _ _ _ _ (by rw [← hl];exact ho) (by rw [hcl,hcs];exact hmz),htk]
theorem oneC_of:∀ {vs:List Value},(∀ v∈vs,oneC [v]=true)→oneC vs=true
 | [],_=>rfl
 | v::vs,h=>by
  have h1:=h v (by simp);have ih:=oneC_of (vs:=vs) (fun u hu=>h u (by simp [hu]));cases v <;> simp only [oneC,reduceCtorEq] at h1 ⊢ <;> first | exact ih | cases h1
theorem oneC_rep {v:Value} (h:oneC [v]=true) (k:Nat):oneC (List.replicate k v)=true:=
 oneC_of (fun u hu=>by rw [(List.mem_replicate.1 hu).2];exact h)
theorem eff_clear {i:Nat} (T:Tab P) {x:Operand} {t e:TypeId} {ti:TyI} {ud:TypeDesc} {ub g o cap k c m:Nat} {xs:List Value} {zv:Value} (hx:E.ev x=some (.slice (some ⟨g,o,none⟩) k c)) (hp:Sx.pick H i=some (row (some ⟨g,0,none⟩) cap e 1 m xs,H'))
  (ht:T.get t=some ti) (hi:ti.desc = .slice e) (he:T.get e=some ⟨ud,1,ub,[zv]⟩) (h1:oneC [zv]=true) (ho:o+k≤m) :
  Eff (α:=Unit) P n w0 M H E none (.call { callee:=.builtin .clear,args:=#[x],argTypes:=#[t] }) ty (fun _=>True) (fun _=>E) (fun _=>row (some ⟨g,0,none⟩) cap e 1 m (xs.take o++List.replicate k zv++xs.drop (o+k))::H'):=
 ⟨fun _ _ _ _ _ w hw h=>xl_step_n rfl rfl (fun act ha=>by
  obtain ⟨tinf,z,g1,g2,g3,g4,g5⟩:=T.inf he;have hu:=T.und ht;rw [hi] at hu;have hw':=hw.pick i hp;have hz:z.cells = #[zv]:=by rw [g5]
  have hown:w.ownsRow 0 e 1 (.slice (some ⟨g,0,none⟩) m cap) m xs:=hw'.head;have hxl:xs.length=m:=by have:=hown.1;omega
  have hzr:(zeroValue e).run P w = .ok z w:=by simp [zeroValue,typeInfo,program,Sem.run,g1,g4]
  cases k with
  | zero=>
   refine ⟨.tuple #[],w,?_,h () w trivial ?_⟩
   ·simp [execOp,resolve,invoke,builtin,ha.eval hx,Builtin.clear_,run_underlying hu]
   ·rw [List.replicate_zero,List.append_nil,Nat.add_zero,List.take_append_drop];exact hw'
  | succ k=>
   obtain ⟨w2,hs,hst⟩:=row_put (P:=P) (o:=o) (vs:=List.replicate (k+1) zv) hw' (oneC_rep h1 _) (by rw [List.length_replicate,hxl];exact ho);rw [List.length_replicate] at hst;refine ⟨.tuple #[],w2,?_,h () w2 trivial hst⟩
   have hzc:(Builtin.zeroCells z.cells (k+1)).toList=List.replicate (k+1) zv:=by
    rw [hz];unfold Builtin.zeroCells;simp only [Array.toList_map,Array.toList_range,List.size_toArray,List.length_cons,List.length_nil];apply List.ext_getElem
    ·simp
    ·intro i h1 h2;simp [Nat.mod_one]
   have hcl:(Builtin.clear_ #[t] ty #[.slice (some ⟨g,o,none⟩) (k+1) c]).run P w = .ok (.tuple #[]) w2:=by
    simp only [Builtin.clear_,Sem.run_bind,run_underlying hu,Result.andThen_ok,List.getElem?_toArray,List.getElem?_cons_zero,hzr,hzc,hs,Sem.run_pure]
   simp only [execOp,resolve,invoke,builtin];simp [ha.eval hx,hcl])⟩
theorem row_cellX {w:World} {g cap m o j:Nat} {e:TypeId} {xs:List Value} {v:Value} (hw:St w0 M w (row (some ⟨g,0,none⟩) cap e 1 m xs::H')) (h:xs[o+j]? = some v):w.cell? ((⟨g,o,none⟩:Addr).add j)=some v:=by
 obtain ⟨hl,hown2⟩:w.ownsRow 0 e 1 (.slice (some ⟨g,0,none⟩) m cap) m xs:=hw.head;rcases hown2 with ⟨hv0,_⟩ | ⟨g',cap',cur,hv0,_,hb,hmc,hcm,hcs,htk⟩
 ·cases hv0
 ·simp only [Value.slice.injEq,Option.some.injEq,Addr.mk.injEq,true_and,and_true] at hv0;obtain ⟨rfl,rfl⟩:=hv0
  have ha:(⟨g,o,none⟩:Addr).add j=⟨g,o+j,none⟩:=by
   unfold Addr.add;split
   ·rename_i hz;rw [hz];rfl
   ·rfl
  rw [ha];simp only [World.cell?,hb,Option.isSome_none,Bool.false_eq_true,if_false];rw [← htk,List.getElem?_take] at h;split at h
  ·rw [← Array.getElem?_toList];exact h
  ·cases h
theorem eff_copyS {i:Nat} (T:Tab P) {x y:Operand} {t t2 e:TypeId} {ti:TyI} {ud:TypeDesc} {ub us g o o2 cap k k2 c c2 m:Nat} {uz:List Value} {xs:List Value} (hx:E.ev x=some (.slice (some ⟨g,o,none⟩) k c)) (hy:E.ev y=some (.slice (some ⟨g,o2,none⟩) k2 c2)) (hp:Sx.pick H i=some (row (some ⟨g,0,none⟩) cap e 1 m xs,H'))
  (ht:T.get t=some ti) (hi:ti.desc = .slice e) (he:T.get e=some ⟨ud,1,ub,uz⟩) (h1:∀ v∈xs,oneC [v]=true) (ho:o+k≤m) (ho2:o2+k2≤m) (hn:Nat.blt d n.m=true) :
  Eff (α:=Unit) P n w0 M H E (some d) (.call { callee:=.builtin .copy,args:=#[x,y],argTypes:=#[t,t2] }) ty (fun _=>True) (fun _=>(d,.int .i64 ((min k2 k:Nat):Int))::E) (fun _=>row (some ⟨g,0,none⟩) cap e 1 m (xs.take o++(xs.drop o2).take (min k2 k)++xs.drop (o+min k2 k))::H'):=
 ⟨fun _ _ _ _ _ w hw h=>xl_step_w rfl rfl hn (fun act ha=>by
  obtain ⟨tinf,z,g1,g2,g3,g4,g5⟩:=T.inf he;have hu:=T.und ht;rw [hi] at hu;have hw':=hw.pick i hp;have hown:w.ownsRow 0 e 1 (.slice (some ⟨g,0,none⟩) m cap) m xs:=hw'.head;have hxl:xs.length=m:=by have:=hown.1;omega
  have hk:min k2 k≤k∧min k2 k≤k2:=⟨Nat.min_le_right _ _,Nat.min_le_left _ _⟩
  generalize hr:min k2 k=r at *;have hcl:((xs.drop o2).take r).length=r:=by simp;omega
  have hld:(loadCells ⟨g,o2,none⟩ r).run P w = .ok ((xs.drop o2).take r).toArray w:=by
   have:=run_loadCells_list (P:=P) w (⟨g,o2,none⟩:Addr) ((xs.drop o2).take r) (fun j v hj=>by
    refine row_cellX hw' ?_;rw [List.getElem?_take] at hj;split at hj
    ·rw [List.getElem?_drop] at hj;exact hj
    ·cases hj)
   rwa [hcl] at this
  obtain ⟨w2,hs,hst⟩:=row_put (P:=P) (o:=o) (vs:=(xs.drop o2).take r) hw' (oneC_of (fun v hv=>h1 v (List.mem_of_mem_drop (List.mem_of_mem_take hv)))) (by rw [hcl,hxl];omega);rw [hcl] at hst;refine ⟨.int .i64 (r:Int),w2,?_,h () w2 trivial hst⟩;have hsz:(sizeOf e).run P w = .ok 1 w:=by simp [sizeOf,typeInfo,program,Sem.run,g1,g2]
  have hc:(Builtin.copy_ #[t,t2] ty #[.slice (some ⟨g,o,none⟩) k c,.slice (some ⟨g,o2,none⟩) k2 c2]).run P w = .ok (goInt r) w2:=by
   have hmin:Nat.min k2 k=r:=hr;simp only [Builtin.copy_,Sem.run_bind,run_underlying hu,Result.andThen_ok,List.getElem?_toArray,List.getElem?_cons_zero,List.getElem?_cons_succ,Builtin.lenOf,hmin,hsz,Builtin.firstCells,Nat.mul_one,hld,hs,Sem.run_pure]
  simp only [execOp,resolve,invoke,builtin];simp [ha.eval hx,ha.eval hy,hc,goInt])⟩
theorem eff_copyG {i i2:Nat} (T:Tab P) {x y:Operand} {t t2 e:TypeId} {ti:TyI} {ud:TypeDesc} {ub g o cap k k2 c c2 m:Nat} {uz:List Value} {xs ys:List Value} {sa:Addr} {H2:List Chunk} (hx:E.ev x=some (.slice (some ⟨g,o,none⟩) k c)) (hy:E.ev y=some (.slice (some sa) k2 c2)) (hp:Sx.pick H i=some (row (some ⟨g,0,none⟩) cap e 1 m xs,H')) (hp2:Sx.pick H i2=some (rng (some sa) ys,H2))
  (ht:T.get t=some ti) (hi:ti.desc = .slice e) (he:T.get e=some ⟨ud,1,ub,uz⟩) (h1:∀ v∈ys,oneC [v]=true) (ho:o+k≤m) (ho2:k2≤ys.length) (hn:Nat.blt d n.m=true) :
  Eff (α:=Unit) P n w0 M H E (some d) (.call { callee:=.builtin .copy,args:=#[x,y],argTypes:=#[t,t2] }) ty (fun _=>True) (fun _=>(d,.int .i64 ((min k2 k:Nat):Int))::E) (fun _=>row (some ⟨g,0,none⟩) cap e 1 m (xs.take o++ys.take (min k2 k)++xs.drop (o+min k2 k))::H'):=
 ⟨fun _ _ _ _ _ w hw h=>xl_step_w rfl rfl hn (fun act ha=>by
  obtain ⟨tinf,z,g1,g2,g3,g4,g5⟩:=T.inf he;have hu:=T.und ht;rw [hi] at hu;have hw':=hw.pick i hp;have hown:w.ownsRow 0 e 1 (.slice (some ⟨g,0,none⟩) m cap) m xs:=hw'.head;have hxl:xs.length=m:=by have:=hown.1;omega
  have hk:min k2 k≤k∧min k2 k≤k2:=⟨Nat.min_le_right _ _,Nat.min_le_left _ _⟩
  generalize hr:min k2 k=r at *;have hcl:(ys.take r).length=r:=by simp;omega
  have hld:(loadCells sa r).run P w = .ok (ys.take r).toArray w:=by
   have hrg:(rng (some sa) ys).ok w:=(hw.pick i2 hp2).head
   have:=run_loadCells_list (P:=P) w sa (ys.take r) (fun j v hj=>by
    rw [List.getElem?_take] at hj;split at hj
    ·obtain ⟨a,ha,hc⟩:=hrg j v hj;cases ha;exact hc
    ·cases hj)
   rwa [hcl] at this
  obtain ⟨w2,hs,hst⟩:=row_put (P:=P) (o:=o) (vs:=ys.take r) hw' (oneC_of (fun v hv=>h1 v (List.mem_of_mem_take hv))) (by rw [hcl,hxl];omega);rw [hcl] at hst;refine ⟨.int .i64 (r:Int),w2,?_,h () w2 trivial hst⟩;have hsz:(sizeOf e).run P w = .ok 1 w:=by simp [sizeOf,typeInfo,program,Sem.run,g1,g2]
  have hc:(Builtin.copy_ #[t,t2] ty #[.slice (some ⟨g,o,none⟩) k c,.slice (some sa) k2 c2]).run P w = .ok (goInt r) w2:=by
   have hmin:Nat.min k2 k=r:=hr;simp only [Builtin.copy_,Sem.run_bind,run_underlying hu,Result.andThen_ok,List.getElem?_toArray,List.getElem?_cons_zero,List.getElem?_cons_succ,Builtin.lenOf,hmin,hsz,Builtin.firstCells,Nat.mul_one,hld,hs,Sem.run_pure]
  simp only [execOp,resolve,invoke,builtin];simp [ha.eval hx,ha.eval hy,hc,goInt])⟩
theorem wd_rowB {b e sz m:Nat} {cs:List Value} {R:List Chunk} {G:World→Prop} (h:Wd w0 M (row (some ⟨b,0,none⟩) m e sz m cs::R) G) (hl:cs.length=m*sz) (hm:m≤maxLen):Wd w0 M (blk b cs e::R) G:=fun w hw=>h w (hw.row_of_blk hl hm)
theorem eff_gives {op:Op} {v:Value} (hg:Gives P n E op ty v) (hn:Nat.blt d n.m=true):Eff (α:=Unit) P n w0 M H E (some d) op ty (fun _=>True) (fun _=>(d,v)::E) (fun _=>H):=
 ⟨fun _ _ _ _ _ w hw h=>xl_step rfl rfl hn (fun act ha=>hg.run _ _ _ _ act ha w) (h () w trivial hw)⟩
theorem eff_max {x y:Operand} {ts:Array TypeId} {k:IntKind} {a b:Int} (hx:E.ev x=some (.int k a)) (hy:E.ev y=some (.int k b)) (hn:Nat.blt d n.m=true):Eff (α:=Unit) P n w0 M H E (some d) (.call { callee:=.builtin .max,args:=#[x,y],argTypes:=ts }) ty (fun _=>True) (fun _=>(d,.int k (max a b))::E) (fun _=>H):=eff_gives (g_max hx hy) hn
theorem eff_min {x y:Operand} {ts:Array TypeId} {k:IntKind} {a b:Int} (hx:E.ev x=some (.int k a)) (hy:E.ev y=some (.int k b)) (hn:Nat.blt d n.m=true):Eff (α:=Unit) P n w0 M H E (some d) (.call { callee:=.builtin .min,args:=#[x,y],argTypes:=ts }) ty (fun _=>True) (fun _=>(d,.int k (min a b))::E) (fun _=>H):=eff_gives (g_min hx hy) hn
end
end
end Go.Sx
namespace Go.Proofs.YtkolmklfgbimoaaGreatDoor
open Go Go.Sx Go.Sx.Chunk
section
set_option maxRecDepth 512
def tyRows:List (Nat×TyI):=[
 (1,⟨.func #[] #[] false,1,8,[.nilFunc]⟩),
 (2,⟨.int .i64,1,8,[.int .i64 0]⟩),
 (3,⟨.int .i64,1,8,[.int .i64 0]⟩),
 (4,⟨.bool,1,1,[.bool false]⟩),
 (5,⟨.int .u8,1,1,[.int .u8 0]⟩),
 (6,⟨.int .u8,1,1,[.int .u8 0]⟩),
 (7,⟨.struct #[⟨"x",2,0,false, "", "runtime",0⟩,⟨"y",3,1,false, "", "runtime",8⟩,⟨"signed",4,2,false, "", "runtime",16⟩,⟨"code",6,3,false, "", "runtime",17⟩],4,24,[.int .i64 0,.int .i64 0,.bool false,.int .u8 0]⟩),
 (8,⟨.struct #[⟨"x",2,0,false, "", "runtime",0⟩,⟨"y",3,1,false, "", "runtime",8⟩,⟨"signed",4,2,false, "", "runtime",16⟩,⟨"code",6,3,false, "", "runtime",17⟩],4,24,[.int .i64 0,.int .i64 0,.bool false,.int .u8 0]⟩),
 (9,⟨.string,1,16,[.string .empty]⟩),
 (10,⟨.string,1,16,[.string .empty]⟩),
 (11,⟨.string,1,16,[.string .empty]⟩),
 (12,⟨.int .u64,1,8,[.int .u64 0]⟩),
 (13,⟨.struct #[⟨"msg",9,0,false, "", "runtime",0⟩,⟨"addr",12,1,false, "", "runtime",16⟩],2,24,[.string .empty,.int .u64 0]⟩),
 (14,⟨.struct #[⟨"msg",9,0,false, "", "runtime",0⟩,⟨"addr",12,1,false, "", "runtime",16⟩],2,24,[.string .empty,.int .u64 0]⟩),
 (15,⟨.pointer 321,1,8,[.pointer none]⟩),
 (16,⟨.pointer 324,1,8,[.pointer none]⟩),
 (17,⟨.pointer 332,1,8,[.pointer none]⟩),
 (18,⟨.struct #[⟨"typ",17,0,false, "", "internal/runtime/maps",0⟩],1,8,[.pointer none]⟩),
 (19,⟨.struct #[⟨"typ",17,0,false, "", "internal/runtime/maps",0⟩],1,8,[.pointer none]⟩),
 (20,⟨.interface #[],1,16,[.nilIface]⟩),
 (21,⟨.int .i32,1,4,[.int .i32 0]⟩),
 (22,⟨.slice 9,1,24,[.slice none 0 0]⟩),
 (23,⟨.func #[] #[4] false,1,8,[.nilFunc]⟩),
 (24,⟨.slice 105,1,24,[.slice none 0 0]⟩),
 (25,⟨.struct #[⟨"Code",24,0,false, "", "",0⟩,⟨"Data",3,1,false, "", "",24⟩],2,32,[.slice none 0 0,.int .i64 0]⟩),
 (26,⟨.struct #[⟨"Code",24,0,false, "", "",0⟩,⟨"Data",3,1,false, "", "",24⟩],2,32,[.slice none 0 0,.int .i64 0]⟩),
 (27,⟨.struct #[⟨"Image",26,0,false, "", "",0⟩,⟨"Code",24,2,false, "", "",32⟩,⟨"Mem",3,3,false, "", "",56⟩],4,64,[.slice none 0 0,.int .i64 0,.slice none 0 0,.int .i64 0]⟩),
 (28,⟨.struct #[⟨"Image",26,0,false, "", "",0⟩,⟨"Code",24,2,false, "", "",32⟩,⟨"Mem",3,3,false, "", "",56⟩],4,64,[.slice none 0 0,.int .i64 0,.slice none 0 0,.int .i64 0]⟩),
 (29,⟨.int .i64,1,8,[.int .i64 0]⟩),
 (31,⟨.func #[22,3] #[28,3,3,29] false,1,8,[.nilFunc]⟩),
 (32,⟨.slice 36,1,24,[.slice none 0 0]⟩),
 (33,⟨.slice 154,1,24,[.slice none 0 0]⟩),
 (34,⟨.slice 94,1,24,[.slice none 0 0]⟩),
 (35,⟨.struct #[⟨"Name",9,0,false, "", "",0⟩,⟨"Code",24,1,false, "", "",16⟩,⟨"Data",3,2,false, "", "",40⟩,⟨"Exports",33,3,false, "", "",48⟩,⟨"Imports",22,4,false, "", "",72⟩,⟨"Patches",34,5,false, "", "",96⟩],6,120,[.string .empty,.slice none 0 0,.int .i64 0,.slice none 0 0,.slice none 0 0,.slice none 0 0]⟩),
 (36,⟨.struct #[⟨"Name",9,0,false, "", "",0⟩,⟨"Code",24,1,false, "", "",16⟩,⟨"Data",3,2,false, "", "",40⟩,⟨"Exports",33,3,false, "", "",48⟩,⟨"Imports",22,4,false, "", "",72⟩,⟨"Patches",34,5,false, "", "",96⟩],6,120,[.string .empty,.slice none 0 0,.int .i64 0,.slice none 0 0,.slice none 0 0,.slice none 0 0]⟩),
 (38,⟨.func #[9] #[36,3,29] false,1,8,[.nilFunc]⟩),
 (40,⟨.func #[32,3] #[26,29] false,1,8,[.nilFunc]⟩),
 (41,⟨.slice 3,1,24,[.slice none 0 0]⟩),
 (43,⟨.func #[24] #[24,41,29] false,1,8,[.nilFunc]⟩),
 (44,⟨.func #[24,24] #[4] false,1,8,[.nilFunc]⟩),
 (45,⟨.func #[22,3] #[4] false,1,8,[.nilFunc]⟩),
 (46,⟨.slice 179,1,24,[.slice none 0 0]⟩),
 (47,⟨.slice 185,1,24,[.slice none 0 0]⟩),
 (48,⟨.slice 182,1,24,[.slice none 0 0]⟩),
 (49,⟨.struct #[⟨"Name",9,0,false, "", "",0⟩,⟨"Main",4,1,false, "", "",16⟩,⟨"Data",3,2,false, "", "",24⟩,⟨"Things",46,3,false, "", "",32⟩,⟨"Nodes",47,4,false, "", "",56⟩,⟨"Procs",48,5,false, "", "",80⟩,⟨"Imports",3,6,false, "", "",104⟩,⟨"Body",3,7,false, "", "",112⟩],8,120,[.string .empty,.bool false,.int .i64 0,.slice none 0 0,.slice none 0 0,.slice none 0 0,.int .i64 0,.int .i64 0]⟩),
 (50,⟨.struct #[⟨"Name",9,0,false, "", "",0⟩,⟨"Main",4,1,false, "", "",16⟩,⟨"Data",3,2,false, "", "",24⟩,⟨"Things",46,3,false, "", "",32⟩,⟨"Nodes",47,4,false, "", "",56⟩,⟨"Procs",48,5,false, "", "",80⟩,⟨"Imports",3,6,false, "", "",104⟩,⟨"Body",3,7,false, "", "",112⟩],8,120,[.string .empty,.bool false,.int .i64 0,.slice none 0 0,.slice none 0 0,.slice none 0 0,.int .i64 0,.int .i64 0]⟩),
 (52,⟨.func #[9] #[50,3,3] false,1,8,[.nilFunc]⟩),
 (53,⟨.struct #[⟨"Trap",3,0,false, "", "",0⟩,⟨"Steps",3,1,false, "", "",8⟩,⟨"Out",41,2,false, "", "",16⟩,⟨"Mem",41,3,false, "", "",40⟩],4,64,[.int .i64 0,.int .i64 0,.slice none 0 0,.slice none 0 0]⟩),
 (54,⟨.struct #[⟨"Trap",3,0,false, "", "",0⟩,⟨"Steps",3,1,false, "", "",8⟩,⟨"Out",41,2,false, "", "",16⟩,⟨"Mem",41,3,false, "", "",40⟩],4,64,[.int .i64 0,.int .i64 0,.slice none 0 0,.slice none 0 0]⟩),
 (55,⟨.func #[28,41,3] #[54] false,1,8,[.nilFunc]⟩),
 (56,⟨.func #[54,54] #[4] false,1,8,[.nilFunc]⟩),
 (57,⟨.func #[9,3,41,41,5] #[4] false,1,8,[.nilFunc]⟩),
 (58,⟨.func #[24] #[4] false,1,8,[.nilFunc]⟩),
 (60,⟨.func #[50,3,41,3] #[3,41] false,1,8,[.nilFunc]⟩),
 (61,⟨.func #[9,3,41] #[4] false,1,8,[.nilFunc]⟩),
 (62,⟨.func #[24,3,41,3] #[54] false,1,8,[.nilFunc]⟩),
 (63,⟨.func #[64,64] #[4] false,1,8,[.nilFunc]⟩),
 (64,⟨.struct #[⟨"Trap",3,0,false, "", "",0⟩,⟨"Steps",3,1,false, "", "",8⟩,⟨"Out",41,2,false, "", "",16⟩,⟨"Mem",41,3,false, "", "",40⟩],4,64,[.int .i64 0,.int .i64 0,.slice none 0 0,.slice none 0 0]⟩),
 (65,⟨.func #[28,41,3] #[4] false,1,8,[.nilFunc]⟩),
 (66,⟨.func #[22,3,41] #[4] false,1,8,[.nilFunc]⟩),
 (67,⟨.slice 21,1,24,[.slice none 0 0]⟩),
 (68,⟨.func #[67] #[4] false,1,8,[.nilFunc]⟩),
 (69,⟨.func #[3] #[3] false,1,8,[.nilFunc]⟩),
 (70,⟨.slice 139,1,24,[.slice none 0 0]⟩),
 (72,⟨.func #[9] #[70,3,29] false,1,8,[.nilFunc]⟩),
 (73,⟨.pointer 80,1,8,[.pointer none]⟩),
 (74,⟨.struct #[⟨"code",24,0,false, "", "delayslot/emit",0⟩,⟨"patches",34,1,false, "", "delayslot/emit",24⟩,⟨"taken",3,2,false, "", "delayslot/emit",48⟩],3,56,[.slice none 0 0,.slice none 0 0,.int .i64 0]⟩),
 (75,⟨.struct #[⟨"code",24,0,false, "", "delayslot/emit",0⟩,⟨"patches",34,1,false, "", "delayslot/emit",24⟩,⟨"taken",3,2,false, "", "delayslot/emit",48⟩],3,56,[.slice none 0 0,.slice none 0 0,.int .i64 0]⟩),
 (76,⟨.slice 274,1,24,[.slice none 0 0]⟩),
 (77,⟨.struct #[⟨"entries",76,0,false, "", "delayslot/scope",0⟩,⟨"begins",41,1,false, "", "delayslot/scope",24⟩],2,48,[.slice none 0 0,.slice none 0 0]⟩),
 (78,⟨.struct #[⟨"entries",76,0,false, "", "delayslot/scope",0⟩,⟨"begins",41,1,false, "", "delayslot/scope",24⟩],2,48,[.slice none 0 0,.slice none 0 0]⟩),
 (79,⟨.struct #[⟨"tokens",70,0,false, "", "delayslot/compile",0⟩,⟨"end",3,1,false, "", "delayslot/compile",24⟩,⟨"b",75,2,false, "", "delayslot/compile",32⟩,⟨"names",78,5,false, "", "delayslot/compile",88⟩,⟨"out",36,7,false, "", "delayslot/compile",136⟩,⟨"e",29,13,false, "", "delayslot/compile",256⟩,⟨"bad",3,14,false, "", "delayslot/compile",264⟩,⟨"factors",3,15,false, "", "delayslot/compile",272⟩,⟨"nested",3,16,false, "", "delayslot/compile",280⟩],17,288,[.slice none 0 0,.int .i64 0,.slice none 0 0,.slice none 0 0,.int .i64 0,.slice none 0 0,.slice none 0 0,.string .empty,.slice none 0 0,.int .i64 0,.slice none 0 0,.slice none 0 0,.slice none 0 0,.int .i64 0,.int .i64 0,.int .i64 0,.int .i64 0]⟩),
 (80,⟨.struct #[⟨"tokens",70,0,false, "", "delayslot/compile",0⟩,⟨"end",3,1,false, "", "delayslot/compile",24⟩,⟨"b",75,2,false, "", "delayslot/compile",32⟩,⟨"names",78,5,false, "", "delayslot/compile",88⟩,⟨"out",36,7,false, "", "delayslot/compile",136⟩,⟨"e",29,13,false, "", "delayslot/compile",256⟩,⟨"bad",3,14,false, "", "delayslot/compile",264⟩,⟨"factors",3,15,false, "", "delayslot/compile",272⟩,⟨"nested",3,16,false, "", "delayslot/compile",280⟩],17,288,[.slice none 0 0,.int .i64 0,.slice none 0 0,.slice none 0 0,.int .i64 0,.slice none 0 0,.slice none 0 0,.string .empty,.slice none 0 0,.int .i64 0,.slice none 0 0,.slice none 0 0,.slice none 0 0,.int .i64 0,.int .i64 0,.int .i64 0,.int .i64 0]⟩),
 (81,⟨.func #[] #[24] false,1,8,[.nilFunc]⟩),
 (82,⟨.func #[] #[34] false,1,8,[.nilFunc]⟩),
 (83,⟨.func #[29,3] #[] false,1,8,[.nilFunc]⟩),
 (84,⟨.func #[32,85] #[4] false,1,8,[.nilFunc]⟩),
 (85,⟨.func #[36] #[4] false,1,8,[.nilFunc]⟩),
 (86,⟨.pointer 90,1,8,[.pointer none]⟩),
 (87,⟨.map 9 3,1,8,[.map none]⟩),
 (88,⟨.slice 97,1,24,[.slice none 0 0]⟩),
 (89,⟨.struct #[⟨"image",26,0,false, "", "delayslot/link",0⟩,⟨"bases",88,2,false, "", "delayslot/link",32⟩,⟨"symbols",87,3,false, "", "delayslot/link",56⟩,⟨"mem",3,4,false, "", "delayslot/link",64⟩],5,72,[.slice none 0 0,.int .i64 0,.slice none 0 0,.map none,.int .i64 0]⟩),
 (90,⟨.struct #[⟨"image",26,0,false, "", "delayslot/link",0⟩,⟨"bases",88,2,false, "", "delayslot/link",32⟩,⟨"symbols",87,3,false, "", "delayslot/link",56⟩,⟨"mem",3,4,false, "", "delayslot/link",64⟩],5,72,[.slice none 0 0,.int .i64 0,.slice none 0 0,.map none,.int .i64 0]⟩),
 (91,⟨.func #[32] #[4] false,1,8,[.nilFunc]⟩),
 (92,⟨.func #[32] #[] false,1,8,[.nilFunc]⟩),
 (93,⟨.struct #[⟨"At",3,0,false, "", "",0⟩,⟨"Kind",3,1,false, "", "",8⟩,⟨"N",3,2,false, "", "",16⟩],3,24,[.int .i64 0,.int .i64 0,.int .i64 0]⟩),
 (94,⟨.struct #[⟨"At",3,0,false, "", "",0⟩,⟨"Kind",3,1,false, "", "",8⟩,⟨"N",3,2,false, "", "",16⟩],3,24,[.int .i64 0,.int .i64 0,.int .i64 0]⟩),
 (95,⟨.func #[36,97,94] #[29] false,1,8,[.nilFunc]⟩),
 (96,⟨.struct #[⟨"code",3,0,false, "", "delayslot/link",0⟩,⟨"data",3,1,false, "", "delayslot/link",8⟩],2,16,[.int .i64 0,.int .i64 0]⟩),
 (97,⟨.struct #[⟨"code",3,0,false, "", "delayslot/link",0⟩,⟨"data",3,1,false, "", "delayslot/link",8⟩],2,16,[.int .i64 0,.int .i64 0]⟩),
 (98,⟨.map 3 3,1,8,[.map none]⟩),
 (99,⟨.struct #[⟨"code",24,0,false, "", "delayslot/reorg",0⟩,⟨"places",41,1,false, "", "delayslot/reorg",24⟩,⟨"anew",98,2,false, "", "delayslot/reorg",48⟩,⟨"olds",41,3,false, "", "delayslot/reorg",56⟩],4,80,[.slice none 0 0,.slice none 0 0,.map none,.slice none 0 0]⟩),
 (100,⟨.struct #[⟨"code",24,0,false, "", "delayslot/reorg",0⟩,⟨"places",41,1,false, "", "delayslot/reorg",24⟩,⟨"anew",98,2,false, "", "delayslot/reorg",48⟩,⟨"olds",41,3,false, "", "delayslot/reorg",56⟩],4,80,[.slice none 0 0,.slice none 0 0,.map none,.slice none 0 0]⟩),
 (101,⟨.func #[24] #[100] false,1,8,[.nilFunc]⟩),
 (103,⟨.func #[105,3] #[3,4] false,1,8,[.nilFunc]⟩),
 (104,⟨.struct #[⟨"Op",3,0,false, "", "",0⟩,⟨"A",3,1,false, "", "",8⟩,⟨"B",3,2,false, "", "",16⟩,⟨"C",3,3,false, "", "",24⟩,⟨"Imm",3,4,false, "", "",32⟩],5,40,[.int .i64 0,.int .i64 0,.int .i64 0,.int .i64 0,.int .i64 0]⟩),
 (105,⟨.struct #[⟨"Op",3,0,false, "", "",0⟩,⟨"A",3,1,false, "", "",8⟩,⟨"B",3,2,false, "", "",16⟩,⟨"C",3,3,false, "", "",24⟩,⟨"Imm",3,4,false, "", "",32⟩],5,40,[.int .i64 0,.int .i64 0,.int .i64 0,.int .i64 0,.int .i64 0]⟩),
 (106,⟨.func #[105] #[4] false,1,8,[.nilFunc]⟩),
 (107,⟨.slice 176,1,24,[.slice none 0 0]⟩),
 (109,⟨.func #[9] #[107,3,3] false,1,8,[.nilFunc]⟩),
 (110,⟨.pointer 112,1,8,[.pointer none]⟩),
 (111,⟨.struct #[⟨"L",107,0,false, "", "",0⟩,⟨"At",3,1,false, "", "",24⟩,⟨"End",3,2,false, "", "",32⟩,⟨"P",50,3,false, "", "",40⟩,⟨"Own",46,11,false, "", "",160⟩,⟨"In",4,12,false, "", "",184⟩,⟨"E",3,13,false, "", "",192⟩,⟨"Bad",3,14,false, "", "",200⟩,⟨"Regs",3,15,false, "", "",208⟩,⟨"Fac",3,16,false, "", "",216⟩,⟨"Level",3,17,false, "", "",224⟩],18,232,[.slice none 0 0,.int .i64 0,.int .i64 0,.string .empty,.bool false,.int .i64 0,.slice none 0 0,.slice none 0 0,.slice none 0 0,.int .i64 0,.int .i64 0,.slice none 0 0,.bool false,.int .i64 0,.int .i64 0,.int .i64 0,.int .i64 0,.int .i64 0]⟩),
 (112,⟨.struct #[⟨"L",107,0,false, "", "",0⟩,⟨"At",3,1,false, "", "",24⟩,⟨"End",3,2,false, "", "",32⟩,⟨"P",50,3,false, "", "",40⟩,⟨"Own",46,11,false, "", "",160⟩,⟨"In",4,12,false, "", "",184⟩,⟨"E",3,13,false, "", "",192⟩,⟨"Bad",3,14,false, "", "",200⟩,⟨"Regs",3,15,false, "", "",208⟩,⟨"Fac",3,16,false, "", "",216⟩,⟨"Level",3,17,false, "", "",224⟩],18,232,[.slice none 0 0,.int .i64 0,.int .i64 0,.string .empty,.bool false,.int .i64 0,.slice none 0 0,.slice none 0 0,.slice none 0 0,.int .i64 0,.int .i64 0,.slice none 0 0,.bool false,.int .i64 0,.int .i64 0,.int .i64 0,.int .i64 0,.int .i64 0]⟩),
 (113,⟨.func #[9] #[4] false,1,8,[.nilFunc]⟩),
 (114,⟨.func #[9] #[] false,1,8,[.nilFunc]⟩),
 (115,⟨.func #[] #[9] false,1,8,[.nilFunc]⟩),
 (116,⟨.func #[3] #[] false,1,8,[.nilFunc]⟩),
 (117,⟨.func #[] #[3] false,1,8,[.nilFunc]⟩),
 (118,⟨.func #[3,3] #[] false,1,8,[.nilFunc]⟩),
 (120,⟨.func #[24] #[3,3] false,1,8,[.nilFunc]⟩),
 (121,⟨.pointer 123,1,8,[.pointer none]⟩),
 (122,⟨.struct #[⟨"P",50,0,false, "", "",0⟩,⟨"Data",41,8,false, "", "",120⟩,⟨"Own",41,9,false, "", "",144⟩,⟨"Free",3,10,false, "", "",168⟩,⟨"In",41,11,false, "", "",176⟩,⟨"Out",41,12,false, "", "",200⟩,⟨"Trap",3,13,false, "", "",224⟩,⟨"Fuel",3,14,false, "", "",232⟩,⟨"Depth",3,15,false, "", "",240⟩],16,248,[.string .empty,.bool false,.int .i64 0,.slice none 0 0,.slice none 0 0,.slice none 0 0,.int .i64 0,.int .i64 0,.slice none 0 0,.slice none 0 0,.int .i64 0,.slice none 0 0,.slice none 0 0,.int .i64 0,.int .i64 0,.int .i64 0]⟩),
 (123,⟨.struct #[⟨"P",50,0,false, "", "",0⟩,⟨"Data",41,8,false, "", "",120⟩,⟨"Own",41,9,false, "", "",144⟩,⟨"Free",3,10,false, "", "",168⟩,⟨"In",41,11,false, "", "",176⟩,⟨"Out",41,12,false, "", "",200⟩,⟨"Trap",3,13,false, "", "",224⟩,⟨"Fuel",3,14,false, "", "",232⟩,⟨"Depth",3,15,false, "", "",240⟩],16,248,[.string .empty,.bool false,.int .i64 0,.slice none 0 0,.slice none 0 0,.slice none 0 0,.int .i64 0,.int .i64 0,.slice none 0 0,.slice none 0 0,.int .i64 0,.slice none 0 0,.slice none 0 0,.int .i64 0,.int .i64 0,.int .i64 0]⟩),
 (124,⟨.pointer 190,1,8,[.pointer none]⟩),
 (125,⟨.func #[3] #[124] false,1,8,[.nilFunc]⟩),
 (126,⟨.pointer 130,1,8,[.pointer none]⟩),
 (127,⟨.func #[41] #[41] false,1,8,[.nilFunc]⟩),
 (128,⟨.array 32 3,32,256,[.int .i64 0,.int .i64 0,.int .i64 0,.int .i64 0,.int .i64 0,.int .i64 0,.int .i64 0,.int .i64 0,.int .i64 0,.int .i64 0,.int .i64 0,.int .i64 0,.int .i64 0,.int .i64 0,.int .i64 0,.int .i64 0,.int .i64 0,.int .i64 0,.int .i64 0,.int .i64 0,.int .i64 0,.int .i64 0,.int .i64 0,.int .i64 0,.int .i64 0,.int .i64 0,.int .i64 0,.int .i64 0,.int .i64 0,.int .i64 0,.int .i64 0,.int .i64 0]⟩),
 (129,⟨.struct #[⟨"code",24,0,false, "", "delayslot/seq",0⟩,⟨"mem",124,1,false, "", "delayslot/seq",24⟩,⟨"regs",128,2,false, "", "delayslot/seq",32⟩,⟨"at",3,34,false, "", "delayslot/seq",288⟩,⟨"in",41,35,false, "", "delayslot/seq",296⟩,⟨"out",41,36,false, "", "delayslot/seq",320⟩],37,344,[.slice none 0 0,.pointer none,.int .i64 0,.int .i64 0,.int .i64 0,.int .i64 0,.int .i64 0,.int .i64 0,.int .i64 0,.int .i64 0,.int .i64 0,.int .i64 0,.int .i64 0,.int .i64 0,.int .i64 0,.int .i64 0,.int .i64 0,.int .i64 0,.int .i64 0,.int .i64 0,.int .i64 0,.int .i64 0,.int .i64 0,.int .i64 0,.int .i64 0,.int .i64 0,.int .i64 0,.int .i64 0,.int .i64 0,.int .i64 0,.int .i64 0,.int .i64 0,.int .i64 0,.int .i64 0,.int .i64 0,.slice none 0 0,.slice none 0 0]⟩),
 (130,⟨.struct #[⟨"code",24,0,false, "", "delayslot/seq",0⟩,⟨"mem",124,1,false, "", "delayslot/seq",24⟩,⟨"regs",128,2,false, "", "delayslot/seq",32⟩,⟨"at",3,34,false, "", "delayslot/seq",288⟩,⟨"in",41,35,false, "", "delayslot/seq",296⟩,⟨"out",41,36,false, "", "delayslot/seq",320⟩],37,344,[.slice none 0 0,.pointer none,.int .i64 0,.int .i64 0,.int .i64 0,.int .i64 0,.int .i64 0,.int .i64 0,.int .i64 0,.int .i64 0,.int .i64 0,.int .i64 0,.int .i64 0,.int .i64 0,.int .i64 0,.int .i64 0,.int .i64 0,.int .i64 0,.int .i64 0,.int .i64 0,.int .i64 0,.int .i64 0,.int .i64 0,.int .i64 0,.int .i64 0,.int .i64 0,.int .i64 0,.int .i64 0,.int .i64 0,.int .i64 0,.int .i64 0,.int .i64 0,.int .i64 0,.int .i64 0,.int .i64 0,.slice none 0 0,.slice none 0 0]⟩),
 (131,⟨.func #[] #[41] false,1,8,[.nilFunc]⟩),
 (132,⟨.pointer 136,1,8,[.pointer none]⟩),
 (133,⟨.struct #[⟨"full",4,0,false, "", "delayslot/pipe",0⟩,⟨"i",105,1,false, "", "delayslot/pipe",8⟩,⟨"at",3,6,false, "", "delayslot/pipe",48⟩,⟨"reg",3,7,false, "", "delayslot/pipe",56⟩,⟨"value",3,8,false, "", "delayslot/pipe",64⟩,⟨"stored",3,9,false, "", "delayslot/pipe",72⟩,⟨"where",3,10,false, "", "delayslot/pipe",80⟩,⟨"trap",3,11,false, "", "delayslot/pipe",88⟩],12,96,[.bool false,.int .i64 0,.int .i64 0,.int .i64 0,.int .i64 0,.int .i64 0,.int .i64 0,.int .i64 0,.int .i64 0,.int .i64 0,.int .i64 0,.int .i64 0]⟩),
 (134,⟨.struct #[⟨"full",4,0,false, "", "delayslot/pipe",0⟩,⟨"i",105,1,false, "", "delayslot/pipe",8⟩,⟨"at",3,6,false, "", "delayslot/pipe",48⟩,⟨"reg",3,7,false, "", "delayslot/pipe",56⟩,⟨"value",3,8,false, "", "delayslot/pipe",64⟩,⟨"stored",3,9,false, "", "delayslot/pipe",72⟩,⟨"where",3,10,false, "", "delayslot/pipe",80⟩,⟨"trap",3,11,false, "", "delayslot/pipe",88⟩],12,96,[.bool false,.int .i64 0,.int .i64 0,.int .i64 0,.int .i64 0,.int .i64 0,.int .i64 0,.int .i64 0,.int .i64 0,.int .i64 0,.int .i64 0,.int .i64 0]⟩),
 (135,⟨.struct #[⟨"code",24,0,false, "", "delayslot/pipe",0⟩,⟨"mem",124,1,false, "", "delayslot/pipe",24⟩,⟨"regs",128,2,false, "", "delayslot/pipe",32⟩,⟨"at",3,34,false, "", "delayslot/pipe",288⟩,⟨"in",41,35,false, "", "delayslot/pipe",296⟩,⟨"out",41,36,false, "", "delayslot/pipe",320⟩,⟨"fetched",134,37,false, "", "delayslot/pipe",344⟩,⟨"read",134,49,false, "", "delayslot/pipe",440⟩,⟨"reckoned",134,61,false, "", "delayslot/pipe",536⟩,⟨"acted",134,73,false, "", "delayslot/pipe",632⟩],85,728,[.slice none 0 0,.pointer none,.int .i64 0,.int .i64 0,.int .i64 0,.int .i64 0,.int .i64 0,.int .i64 0,.int .i64 0,.int .i64 0,.int .i64 0,.int .i64 0,.int .i64 0,.int .i64 0,.int .i64 0,.int .i64 0,.int .i64 0,.int .i64 0,.int .i64 0,.int .i64 0,.int .i64 0,.int .i64 0,.int .i64 0,.int .i64 0,.int .i64 0,.int .i64 0,.int .i64 0,.int .i64 0,.int .i64 0,.int .i64 0,.int .i64 0,.int .i64 0,.int .i64 0,.int .i64 0,.int .i64 0,.slice none 0 0,.slice none 0 0,.bool false,.int .i64 0,.int .i64 0,.int .i64 0,.int .i64 0,.int .i64 0,.int .i64 0,.int .i64 0,.int .i64 0,.int .i64 0,.int .i64 0,.int .i64 0,.bool false,.int .i64 0,.int .i64 0,.int .i64 0,.int .i64 0,.int .i64 0,.int .i64 0,.int .i64 0,.int .i64 0,.int .i64 0,.int .i64 0,.int .i64 0,.bool false,.int .i64 0,.int .i64 0,.int .i64 0,.int .i64 0,.int .i64 0,.int .i64 0,.int .i64 0,.int .i64 0,.int .i64 0,.int .i64 0,.int .i64 0,.bool false,.int .i64 0,.int .i64 0,.int .i64 0,.int .i64 0,.int .i64 0,.int .i64 0,.int .i64 0,.int .i64 0,.int .i64 0,.int .i64 0,.int .i64 0]⟩),
 (136,⟨.struct #[⟨"code",24,0,false, "", "delayslot/pipe",0⟩,⟨"mem",124,1,false, "", "delayslot/pipe",24⟩,⟨"regs",128,2,false, "", "delayslot/pipe",32⟩,⟨"at",3,34,false, "", "delayslot/pipe",288⟩,⟨"in",41,35,false, "", "delayslot/pipe",296⟩,⟨"out",41,36,false, "", "delayslot/pipe",320⟩,⟨"fetched",134,37,false, "", "delayslot/pipe",344⟩,⟨"read",134,49,false, "", "delayslot/pipe",440⟩,⟨"reckoned",134,61,false, "", "delayslot/pipe",536⟩,⟨"acted",134,73,false, "", "delayslot/pipe",632⟩],85,728,[.slice none 0 0,.pointer none,.int .i64 0,.int .i64 0,.int .i64 0,.int .i64 0,.int .i64 0,.int .i64 0,.int .i64 0,.int .i64 0,.int .i64 0,.int .i64 0,.int .i64 0,.int .i64 0,.int .i64 0,.int .i64 0,.int .i64 0,.int .i64 0,.int .i64 0,.int .i64 0,.int .i64 0,.int .i64 0,.int .i64 0,.int .i64 0,.int .i64 0,.int .i64 0,.int .i64 0,.int .i64 0,.int .i64 0,.int .i64 0,.int .i64 0,.int .i64 0,.int .i64 0,.int .i64 0,.int .i64 0,.slice none 0 0,.slice none 0 0,.bool false,.int .i64 0,.int .i64 0,.int .i64 0,.int .i64 0,.int .i64 0,.int .i64 0,.int .i64 0,.int .i64 0,.int .i64 0,.int .i64 0,.int .i64 0,.bool false,.int .i64 0,.int .i64 0,.int .i64 0,.int .i64 0,.int .i64 0,.int .i64 0,.int .i64 0,.int .i64 0,.int .i64 0,.int .i64 0,.int .i64 0,.bool false,.int .i64 0,.int .i64 0,.int .i64 0,.int .i64 0,.int .i64 0,.int .i64 0,.int .i64 0,.int .i64 0,.int .i64 0,.int .i64 0,.int .i64 0,.bool false,.int .i64 0,.int .i64 0,.int .i64 0,.int .i64 0,.int .i64 0,.int .i64 0,.int .i64 0,.int .i64 0,.int .i64 0,.int .i64 0,.int .i64 0]⟩),
 (137,⟨.func #[9,5] #[3] false,1,8,[.nilFunc]⟩),
 (138,⟨.struct #[⟨"Kind",3,0,false, "", "",0⟩,⟨"Text",9,1,false, "", "",8⟩,⟨"N",3,2,false, "", "",24⟩,⟨"At",3,3,false, "", "",32⟩],4,40,[.int .i64 0,.string .empty,.int .i64 0,.int .i64 0]⟩),
 (139,⟨.struct #[⟨"Kind",3,0,false, "", "",0⟩,⟨"Text",9,1,false, "", "",8⟩,⟨"N",3,2,false, "", "",24⟩,⟨"At",3,3,false, "", "",32⟩],4,40,[.int .i64 0,.string .empty,.int .i64 0,.int .i64 0]⟩),
 (141,⟨.func #[9,3] #[139,3,29] false,1,8,[.nilFunc]⟩),
 (143,⟨.func #[] #[9,3] false,1,8,[.nilFunc]⟩),
 (144,⟨.struct #[⟨"kind",3,0,false, "", "delayslot/compile",0⟩,⟨"at",3,1,false, "", "delayslot/compile",8⟩,⟨"size",3,2,false, "", "delayslot/compile",16⟩,⟨"takes",4,3,false, "", "delayslot/compile",24⟩],4,32,[.int .i64 0,.int .i64 0,.int .i64 0,.bool false]⟩),
 (145,⟨.struct #[⟨"kind",3,0,false, "", "delayslot/compile",0⟩,⟨"at",3,1,false, "", "delayslot/compile",8⟩,⟨"size",3,2,false, "", "delayslot/compile",16⟩,⟨"takes",4,3,false, "", "delayslot/compile",24⟩],4,32,[.int .i64 0,.int .i64 0,.int .i64 0,.bool false]⟩),
 (146,⟨.func #[105] #[3] false,1,8,[.nilFunc]⟩),
 (147,⟨.func #[3] #[4] false,1,8,[.nilFunc]⟩),
 (148,⟨.func #[105,3,3] #[3] false,1,8,[.nilFunc]⟩),
 (149,⟨.pointer 75,1,8,[.pointer none]⟩),
 (150,⟨.func #[24] #[24] false,1,8,[.nilFunc]⟩),
 (151,⟨.func #[34] #[34] false,1,8,[.nilFunc]⟩),
 (152,⟨.func #[32,85] #[3] false,1,8,[.nilFunc]⟩),
 (153,⟨.struct #[⟨"Name",9,0,false, "", "",0⟩,⟨"At",3,1,false, "", "",16⟩],2,24,[.string .empty,.int .i64 0]⟩),
 (154,⟨.struct #[⟨"Name",9,0,false, "", "",0⟩,⟨"At",3,1,false, "", "",16⟩],2,24,[.string .empty,.int .i64 0]⟩),
 (155,⟨.func #[24,106] #[4] false,1,8,[.nilFunc]⟩),
 (156,⟨.func #[22] #[4] false,1,8,[.nilFunc]⟩),
 (157,⟨.func #[34,158] #[4] false,1,8,[.nilFunc]⟩),
 (158,⟨.func #[94] #[4] false,1,8,[.nilFunc]⟩),
 (159,⟨.map 9 4,1,8,[.map none]⟩),
 (160,⟨.struct #[⟨"there",159,0,false, "", "delayslot/bag",0⟩,⟨"order",22,1,false, "", "delayslot/bag",8⟩],2,32,[.map none,.slice none 0 0]⟩),
 (161,⟨.struct #[⟨"there",159,0,false, "", "delayslot/bag",0⟩,⟨"order",22,1,false, "", "delayslot/bag",8⟩],2,32,[.map none,.slice none 0 0]⟩),
 (162,⟨.slice 165,1,24,[.slice none 0 0]⟩),
 (163,⟨.func #[24] #[162] false,1,8,[.nilFunc]⟩),
 (164,⟨.struct #[⟨"From",3,0,false, "", "",0⟩,⟨"To",3,1,false, "", "",8⟩],2,16,[.int .i64 0,.int .i64 0]⟩),
 (165,⟨.struct #[⟨"From",3,0,false, "", "",0⟩,⟨"To",3,1,false, "", "",8⟩],2,16,[.int .i64 0,.int .i64 0]⟩),
 (166,⟨.func #[24] #[41] false,1,8,[.nilFunc]⟩),
 (167,⟨.func #[24,41] #[24] false,1,8,[.nilFunc]⟩),
 (168,⟨.struct #[⟨"a",4,0,false, "", "delayslot/isa",0⟩,⟨"b",4,1,false, "", "delayslot/isa",1⟩,⟨"c",4,2,false, "", "delayslot/isa",2⟩,⟨"imm",4,3,false, "", "delayslot/isa",3⟩],4,4,[.bool false,.bool false,.bool false,.bool false]⟩),
 (169,⟨.struct #[⟨"a",4,0,false, "", "delayslot/isa",0⟩,⟨"b",4,1,false, "", "delayslot/isa",1⟩,⟨"c",4,2,false, "", "delayslot/isa",2⟩,⟨"imm",4,3,false, "", "delayslot/isa",3⟩],4,4,[.bool false,.bool false,.bool false,.bool false]⟩),
 (171,⟨.func #[3] #[169,4] false,1,8,[.nilFunc]⟩),
 (172,⟨.func #[3,4] #[4] false,1,8,[.nilFunc]⟩),
 (173,⟨.func #[3,3] #[4] false,1,8,[.nilFunc]⟩),
 (174,⟨.func #[5] #[4] false,1,8,[.nilFunc]⟩),
 (175,⟨.slice 5,1,24,[.slice none 0 0]⟩),
 (176,⟨.struct #[⟨"Kind",3,0,false, "", "",0⟩,⟨"Text",9,1,false, "", "",8⟩,⟨"N",3,2,false, "", "",24⟩,⟨"At",3,3,false, "", "",32⟩],4,40,[.int .i64 0,.string .empty,.int .i64 0,.int .i64 0]⟩),
 (177,⟨.func #[5,5] #[4] false,1,8,[.nilFunc]⟩),
 (178,⟨.struct #[⟨"Name",9,0,false, "", "",0⟩,⟨"Kind",3,1,false, "", "",16⟩,⟨"At",3,2,false, "", "",24⟩,⟨"Size",3,3,false, "", "",32⟩,⟨"Takes",4,4,false, "", "",40⟩],5,48,[.string .empty,.int .i64 0,.int .i64 0,.int .i64 0,.bool false]⟩),
 (179,⟨.struct #[⟨"Name",9,0,false, "", "",0⟩,⟨"Kind",3,1,false, "", "",16⟩,⟨"At",3,2,false, "", "",24⟩,⟨"Size",3,3,false, "", "",32⟩,⟨"Takes",4,4,false, "", "",40⟩],5,48,[.string .empty,.int .i64 0,.int .i64 0,.int .i64 0,.bool false]⟩),
 (180,⟨.func #[9,3] #[] false,1,8,[.nilFunc]⟩),
 (181,⟨.struct #[⟨"Size",3,0,false, "", "",0⟩,⟨"Body",3,1,false, "", "",8⟩],2,16,[.int .i64 0,.int .i64 0]⟩),
 (182,⟨.struct #[⟨"Size",3,0,false, "", "",0⟩,⟨"Body",3,1,false, "", "",8⟩],2,16,[.int .i64 0,.int .i64 0]⟩),
 (183,⟨.func #[185] #[3] false,1,8,[.nilFunc]⟩),
 (184,⟨.struct #[⟨"Kind",3,0,false, "", "",0⟩,⟨"T",179,1,false, "", "",8⟩,⟨"A",3,6,false, "", "",56⟩,⟨"B",3,7,false, "", "",64⟩,⟨"N",3,8,false, "", "",72⟩,⟨"Op",9,9,false, "", "",80⟩,⟨"Kids",41,10,false, "", "",96⟩],11,120,[.int .i64 0,.string .empty,.int .i64 0,.int .i64 0,.int .i64 0,.bool false,.int .i64 0,.int .i64 0,.int .i64 0,.string .empty,.slice none 0 0]⟩),
 (185,⟨.struct #[⟨"Kind",3,0,false, "", "",0⟩,⟨"T",179,1,false, "", "",8⟩,⟨"A",3,6,false, "", "",56⟩,⟨"B",3,7,false, "", "",64⟩,⟨"N",3,8,false, "", "",72⟩,⟨"Op",9,9,false, "", "",80⟩,⟨"Kids",41,10,false, "", "",96⟩],11,120,[.int .i64 0,.string .empty,.int .i64 0,.int .i64 0,.int .i64 0,.bool false,.int .i64 0,.int .i64 0,.int .i64 0,.string .empty,.slice none 0 0]⟩),
 (186,⟨.func #[24,3] #[3] false,1,8,[.nilFunc]⟩),
 (187,⟨.func #[179,3] #[] false,1,8,[.nilFunc]⟩),
 (188,⟨.func #[185] #[] false,1,8,[.nilFunc]⟩),
 (189,⟨.struct #[⟨"words",41,0,false, "", "delayslot/cells",0⟩],1,24,[.slice none 0 0]⟩),
 (190,⟨.struct #[⟨"words",41,0,false, "", "delayslot/cells",0⟩],1,24,[.slice none 0 0]⟩),
 (192,⟨.func #[105,3,3] #[3,3,4] false,1,8,[.nilFunc]⟩),
 (193,⟨.func #[134] #[] false,1,8,[.nilFunc]⟩),
 (194,⟨.func #[9,3,174] #[3] false,1,8,[.nilFunc]⟩),
 (195,⟨.func #[9] #[9] false,1,8,[.nilFunc]⟩),
 (196,⟨.func #[9] #[3] false,1,8,[.nilFunc]⟩),
 (197,⟨.func #[9,3] #[3] false,1,8,[.nilFunc]⟩),
 (198,⟨.pointer 78,1,8,[.pointer none]⟩),
 (199,⟨.func #[9,200] #[3] false,1,8,[.nilFunc]⟩),
 (200,⟨.func #[21] #[4] false,1,8,[.nilFunc]⟩),
 (201,⟨.func #[24,106] #[3] false,1,8,[.nilFunc]⟩),
 (202,⟨.func #[34,158] #[3] false,1,8,[.nilFunc]⟩),
 (203,⟨.pointer 161,1,8,[.pointer none]⟩),
 (204,⟨.func #[105,105] #[3] false,1,8,[.nilFunc]⟩),
 (205,⟨.func #[24,41,105,3] #[4] false,1,8,[.nilFunc]⟩),
 (206,⟨.func #[46,9] #[179] false,1,8,[.nilFunc]⟩),
 (207,⟨.func #[9,3] #[179] false,1,8,[.nilFunc]⟩),
 (208,⟨.func #[41,3] #[4] false,1,8,[.nilFunc]⟩),
 (209,⟨.func #[105] #[41] false,1,8,[.nilFunc]⟩),
 (210,⟨.func #[9,3,3] #[3] false,1,8,[.nilFunc]⟩),
 (211,⟨.func #[4] #[3] false,1,8,[.nilFunc]⟩),
 (212,⟨.func #[3] #[3,4] false,1,8,[.nilFunc]⟩),
 (213,⟨.func #[3,3] #[3] false,1,8,[.nilFunc]⟩),
 (214,⟨.func #[105,3,3] #[3,4] false,1,8,[.nilFunc]⟩),
 (215,⟨.func #[3,3] #[3,3,4] false,1,8,[.nilFunc]⟩),
 (216,⟨.func #[134] #[134] false,1,8,[.nilFunc]⟩),
 (217,⟨.func #[3,134,128] #[3] false,1,8,[.nilFunc]⟩),
 (218,⟨.func #[9,9] #[4] false,1,8,[.nilFunc]⟩),
 (219,⟨.func #[22,9] #[4] false,1,8,[.nilFunc]⟩),
 (220,⟨.func #[] #[22] false,1,8,[.nilFunc]⟩),
 (221,⟨.func #[9,3,145] #[] false,1,8,[.nilFunc]⟩),
 (222,⟨.func #[] #[3,3] false,1,8,[.nilFunc]⟩),
 (223,⟨.func #[9,145] #[] false,1,8,[.nilFunc]⟩),
 (224,⟨.func #[9,3,3] #[] false,1,8,[.nilFunc]⟩),
 (226,⟨.func #[] #[9,3,4] false,1,8,[.nilFunc]⟩),
 (227,⟨.func #[3,4] #[] false,1,8,[.nilFunc]⟩),
 (228,⟨.func #[9,200,4] #[3] false,1,8,[.nilFunc]⟩),
 (229,⟨.map 3 4,1,8,[.map none]⟩),
 (230,⟨.struct #[⟨"there",229,0,false, "", "delayslot/bag",0⟩,⟨"order",41,1,false, "", "delayslot/bag",8⟩],2,32,[.map none,.slice none 0 0]⟩),
 (231,⟨.struct #[⟨"there",229,0,false, "", "delayslot/bag",0⟩,⟨"order",41,1,false, "", "delayslot/bag",8⟩],2,32,[.map none,.slice none 0 0]⟩),
 (232,⟨.func #[41,147] #[41] false,1,8,[.nilFunc]⟩),
 (233,⟨.func #[235] #[41] false,1,8,[.nilFunc]⟩),
 (234,⟨.func #[147] #[] false,1,8,[.nilFunc]⟩),
 (235,⟨.func #[147] #[] false,1,8,[.nilFunc]⟩),
 (236,⟨.func #[] #[235] false,1,8,[.nilFunc]⟩),
 (237,⟨.func #[41] #[] false,1,8,[.nilFunc]⟩),
 (238,⟨.func #[41,3] #[41] false,1,8,[.nilFunc]⟩),
 (239,⟨.func #[24,41,3,3] #[4] false,1,8,[.nilFunc]⟩),
 (240,⟨.func #[235,173] #[3,4] false,1,8,[.nilFunc]⟩),
 (241,⟨.func #[105,3] #[4] false,1,8,[.nilFunc]⟩),
 (242,⟨.func #[22] #[9] false,1,8,[.nilFunc]⟩),
 (244,⟨.func #[105] #[41,3] false,1,8,[.nilFunc]⟩),
 (245,⟨.func #[41,3] #[3] false,1,8,[.nilFunc]⟩),
 (246,⟨.func #[3,3,4] #[3] false,1,8,[.nilFunc]⟩),
 (247,⟨.func #[3,3] #[3,3] false,1,8,[.nilFunc]⟩),
 (248,⟨.int .u64,1,8,[.int .u64 0]⟩),
 (249,⟨.func #[3,3] #[128] false,1,8,[.nilFunc]⟩),
 (250,⟨.func #[22,9] #[3] false,1,8,[.nilFunc]⟩),
 (251,⟨.func #[9] #[22] false,1,8,[.nilFunc]⟩),
 (252,⟨.func #[9,145] #[4] false,1,8,[.nilFunc]⟩),
 (253,⟨.slice 145,1,24,[.slice none 0 0]⟩),
 (254,⟨.func #[252] #[] false,1,8,[.nilFunc]⟩),
 (255,⟨.func #[252] #[] false,1,8,[.nilFunc]⟩),
 (256,⟨.func #[] #[255] false,1,8,[.nilFunc]⟩),
 (258,⟨.func #[9] #[145,3,4] false,1,8,[.nilFunc]⟩),
 (259,⟨.func #[105,3] #[3] false,1,8,[.nilFunc]⟩),
 (260,⟨.func #[9,3] #[145] false,1,8,[.nilFunc]⟩),
 (261,⟨.func #[145,3] #[] false,1,8,[.nilFunc]⟩),
 (262,⟨.func #[145] #[] false,1,8,[.nilFunc]⟩),
 (263,⟨.pointer 231,1,8,[.pointer none]⟩),
 (264,⟨.func #[41,147] #[3] false,1,8,[.nilFunc]⟩),
 (265,⟨.func #[41,235] #[41] false,1,8,[.nilFunc]⟩),
 (266,⟨.func #[41,3,3,3] #[] false,1,8,[.nilFunc]⟩),
 (267,⟨.func #[248] #[3] false,1,8,[.nilFunc]⟩),
 (269,⟨.func #[248,248] #[248,248] false,1,8,[.nilFunc]⟩),
 (270,⟨.func #[3] #[41,3] false,1,8,[.nilFunc]⟩),
 (272,⟨.func #[9,200] #[22] false,1,8,[.nilFunc]⟩),
 (273,⟨.struct #[⟨"name",9,0,false, "", "delayslot/scope",0⟩,⟨"value",145,1,false, "", "delayslot/scope",16⟩],5,48,[.string .empty,.int .i64 0,.int .i64 0,.int .i64 0,.bool false]⟩),
 (274,⟨.struct #[⟨"name",9,0,false, "", "delayslot/scope",0⟩,⟨"value",145,1,false, "", "delayslot/scope",16⟩],5,48,[.string .empty,.int .i64 0,.int .i64 0,.int .i64 0,.bool false]⟩),
 (275,⟨.func #[117,87] #[3] false,1,8,[.nilFunc]⟩),
 (276,⟨.func #[145] #[3] false,1,8,[.nilFunc]⟩),
 (277,⟨.func #[41,3,3] #[] false,1,8,[.nilFunc]⟩),
 (278,⟨.int .i64,1,8,[.int .i64 0]⟩),
 (280,⟨.func #[41,3,3] #[3,278] false,1,8,[.nilFunc]⟩),
 (281,⟨.func #[41,3,3] #[4] false,1,8,[.nilFunc]⟩),
 (282,⟨.func #[41,3,3,3] #[3] false,1,8,[.nilFunc]⟩),
 (283,⟨.func #[41,3,3,3] #[3,4] false,1,8,[.nilFunc]⟩),
 (284,⟨.func #[285] #[3] false,1,8,[.nilFunc]⟩),
 (285,⟨.int .u32,1,4,[.int .u32 0]⟩),
 (286,⟨.func #[287] #[3] false,1,8,[.nilFunc]⟩),
 (287,⟨.int .u64,1,8,[.int .u64 0]⟩),
 (289,⟨.func #[285,285] #[285,285] false,1,8,[.nilFunc]⟩),
 (291,⟨.func #[287,287] #[287,287] false,1,8,[.nilFunc]⟩),
 (292,⟨.slice 294,1,24,[.slice none 0 0]⟩),
 (293,⟨.struct #[⟨"start",3,0,false, "", "strings",0⟩,⟨"end",3,1,false, "", "strings",8⟩],2,16,[.int .i64 0,.int .i64 0]⟩),
 (294,⟨.struct #[⟨"start",3,0,false, "", "strings",0⟩,⟨"end",3,1,false, "", "strings",8⟩],2,16,[.int .i64 0,.int .i64 0]⟩),
 (295,⟨.func #[296,21] #[4] false,1,8,[.nilFunc]⟩),
 (296,⟨.pointer 307,1,8,[.pointer none]⟩),
 (297,⟨.func #[3,117] #[3] false,1,8,[.nilFunc]⟩),
 (298,⟨.int .u64,1,8,[.int .u64 0]⟩),
 (299,⟨.func #[3] #[248] false,1,8,[.nilFunc]⟩),
 (300,⟨.func #[] #[287] false,1,8,[.nilFunc]⟩),
 (301,⟨.func #[41,3,302] #[3] false,1,8,[.nilFunc]⟩),
 (302,⟨.pointer 3,1,8,[.pointer none]⟩),
 (303,⟨.func #[41,3,3,3,302] #[3] false,1,8,[.nilFunc]⟩),
 (304,⟨.slice 310,1,24,[.slice none 0 0]⟩),
 (305,⟨.slice 313,1,24,[.slice none 0 0]⟩),
 (306,⟨.struct #[⟨"R16",304,0,false, "", "",0⟩,⟨"R32",305,1,false, "", "",24⟩,⟨"LatinOffset",3,2,false, "", "",48⟩],3,56,[.slice none 0 0,.slice none 0 0,.int .i64 0]⟩),
 (307,⟨.struct #[⟨"R16",304,0,false, "", "",0⟩,⟨"R32",305,1,false, "", "",24⟩,⟨"LatinOffset",3,2,false, "", "",48⟩],3,56,[.slice none 0 0,.slice none 0 0,.int .i64 0]⟩),
 (308,⟨.int .u16,1,2,[.int .u16 0]⟩),
 (309,⟨.struct #[⟨"Lo",308,0,false, "", "",0⟩,⟨"Hi",308,1,false, "", "",2⟩,⟨"Stride",308,2,false, "", "",4⟩],3,6,[.int .u16 0,.int .u16 0,.int .u16 0]⟩),
 (310,⟨.struct #[⟨"Lo",308,0,false, "", "",0⟩,⟨"Hi",308,1,false, "", "",2⟩,⟨"Stride",308,2,false, "", "",4⟩],3,6,[.int .u16 0,.int .u16 0,.int .u16 0]⟩),
 (311,⟨.func #[304,308] #[4] false,1,8,[.nilFunc]⟩),
 (312,⟨.struct #[⟨"Lo",285,0,false, "", "",0⟩,⟨"Hi",285,1,false, "", "",4⟩,⟨"Stride",285,2,false, "", "",8⟩],3,12,[.int .u32 0,.int .u32 0,.int .u32 0]⟩),
 (313,⟨.struct #[⟨"Lo",285,0,false, "", "",0⟩,⟨"Hi",285,1,false, "", "",4⟩,⟨"Stride",285,2,false, "", "",8⟩],3,12,[.int .u32 0,.int .u32 0,.int .u32 0]⟩),
 (314,⟨.func #[305,285] #[4] false,1,8,[.nilFunc]⟩),
 (315,⟨.pointer 298,1,8,[.pointer none]⟩),
 (316,⟨.func #[41,3,3,302] #[3,3] false,1,8,[.nilFunc]⟩),
 (317,⟨.pointer 310,1,8,[.pointer none]⟩),
 (318,⟨.pointer 313,1,8,[.pointer none]⟩),
 (319,⟨.func #[] #[3,4] false,1,8,[.nilFunc]⟩),
 (320,⟨.struct #[⟨"_interface",17,0,false, "", "runtime",0⟩,⟨"concrete",17,1,false, "", "runtime",8⟩,⟨"asserted",17,2,false, "", "runtime",16⟩,⟨"missingMethod",9,3,false, "", "runtime",24⟩],4,40,[.pointer none,.pointer none,.pointer none,.string .empty]⟩),
 (321,⟨.struct #[⟨"_interface",17,0,false, "", "runtime",0⟩,⟨"concrete",17,1,false, "", "runtime",8⟩,⟨"asserted",17,2,false, "", "runtime",16⟩,⟨"missingMethod",9,3,false, "", "runtime",24⟩],4,40,[.pointer none,.pointer none,.pointer none,.string .empty]⟩),
 (322,⟨.array 0 16,0,0,[]⟩),
 (323,⟨.struct #[⟨"_",322,0,false, "", "runtime",0⟩],0,0,[]⟩),
 (324,⟨.struct #[⟨"_",322,0,false, "", "runtime",0⟩],0,0,[]⟩),
 (325,⟨.int .u8,1,1,[.int .u8 0]⟩),
 (326,⟨.int .u8,1,1,[.int .u8 0]⟩),
 (327,⟨.func #[334,334] #[4] false,1,8,[.nilFunc]⟩),
 (328,⟨.pointer 5,1,8,[.pointer none]⟩),
 (329,⟨.int .i32,1,4,[.int .i32 0]⟩),
 (330,⟨.int .i32,1,4,[.int .i32 0]⟩),
 (331,⟨.struct #[⟨"Size_",12,0,false, "", "",0⟩,⟨"PtrBytes",12,1,false, "", "",8⟩,⟨"Hash",285,2,false, "", "",16⟩,⟨"TFlag",325,3,false, "", "",20⟩,⟨"Align_",5,4,false, "", "",21⟩,⟨"FieldAlign_",5,5,false, "", "",22⟩,⟨"Kind_",326,6,false, "", "",23⟩,⟨"Equal",327,7,false, "", "",24⟩,⟨"GCData",328,8,false, "", "",32⟩,⟨"Str",329,9,false, "", "",40⟩,⟨"PtrToThis",330,10,false, "", "",44⟩],11,48,[.int .u64 0,.int .u64 0,.int .u32 0,.int .u8 0,.int .u8 0,.int .u8 0,.int .u8 0,.nilFunc,.pointer none,.int .i32 0,.int .i32 0]⟩),
 (332,⟨.struct #[⟨"Size_",12,0,false, "", "",0⟩,⟨"PtrBytes",12,1,false, "", "",8⟩,⟨"Hash",285,2,false, "", "",16⟩,⟨"TFlag",325,3,false, "", "",20⟩,⟨"Align_",5,4,false, "", "",21⟩,⟨"FieldAlign_",5,5,false, "", "",22⟩,⟨"Kind_",326,6,false, "", "",23⟩,⟨"Equal",327,7,false, "", "",24⟩,⟨"GCData",328,8,false, "", "",32⟩,⟨"Str",329,9,false, "", "",40⟩,⟨"PtrToThis",330,10,false, "", "",44⟩],11,48,[.int .u64 0,.int .u64 0,.int .u32 0,.int .u8 0,.int .u8 0,.int .u8 0,.int .u8 0,.nilFunc,.pointer none,.int .i32 0,.int .i32 0]⟩),
 (333,⟨.func #[] #[336] false,1,8,[.nilFunc]⟩),
 (334,⟨.unsafePointer,1,8,[.pointer none]⟩),
 (335,⟨.func #[113] #[] false,1,8,[.nilFunc]⟩),
 (336,⟨.func #[113] #[] false,1,8,[.nilFunc]⟩)]
theorem ty_desc:tyRows.map (fun e=>Tryz.prog.underlying e.1)=tyRows.map (fun e=>some e.2.desc):=by kernel_rfl
theorem ty_info:tyRows.map (fun e=>(Tryz.prog.info? e.1).map fun i=>(i.size,i.bytes,i.zero.map (·.cells)))=tyRows.map (fun e=>some (e.2.size,e.2.bytes,some e.2.zero.toArray)):=by kernel_rfl
theorem map_at {α β:Type} {f g:α→β} {l:List α} (h:l.map f=l.map g):∀ x∈l,f x=g x:=by
 induction l with
 | nil=>intro x hx;simp at hx
 | cons y l ih=>
  simp only [List.map_cons,List.cons.injEq] at h;intro x hx;rcases List.mem_cons.1 hx with rfl | hx
  ·exact h.1
  ·exact ih h.2 x hx
def T:Tab Tryz.prog:=⟨tyRows,fun t i hm=>by
 have h1:=map_at ty_desc (t,i) hm;have h2:=map_at ty_info (t,i) hm;dsimp only at h1 h2;refine ⟨h1,?_⟩;cases hq:Tryz.prog.info? t with
 | none=>rw [hq] at h2;cases h2
 | some ti=>
  rw [hq] at h2;simp only [Option.map_some,Option.some.injEq,Prod.mk.injEq] at h2;obtain ⟨h3,h4,h5⟩:=h2;cases hz:ti.zero with
  | none=>rw [hz] at h5;cases h5
  | some z=>
   rw [hz] at h5;simp only [Option.map_some,Option.some.injEq] at h5;exact ⟨ti,z,rfl,h3,h4,hz,h5⟩⟩
end
end Go.Proofs.YtkolmklfgbimoaaGreatDoor
