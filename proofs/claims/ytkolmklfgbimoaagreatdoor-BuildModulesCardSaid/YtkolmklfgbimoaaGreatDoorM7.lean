/- Texts of the proof, in their order: Lk4, Lk5, Lk6, Cr1, Nb2, Bg2, Ro1, Br2, Ef1, Ef2, Bg3, Ef3, De1, De2, Ro2, De3, Sc1. -/
import Derived.Test.YtkolmklfgbimoaaGreatDoorM6
import Derived.Test.YtkolmklfgbimoaaGreatDoorM4
import Derived.Test.YtkolmklfgbimoaaGreatDoorM3
import Derived.Sort.Row
import Derived.Test.YtkolmklfgbimoaaGreatDoorM2
import Derived.Lib.RowBridge
set_option linter.unusedVariables false
set_option linter.unusedSimpArgs false
set_option maxHeartbeats 16000000
set_option maxRecDepth 100000
namespace Go.Proofs.YtkolmklfgbimoaaGreatDoor
open Go Go.Sx Go.Sx.Chunk
section
set_option maxRecDepth 512
def inD:In:=⟨0,0,0,0,0⟩
def numF (b:Ba) (syms:List Sym) (all mem:Int) (imps:List ByteArray) (p:Pa) (n:Int):Option Int:=
 if p.kind=0 then some (n+(b.1:Int)) else if p.kind=1 then some (n+b.2) else if p.kind=2 then symF (imps.getD p.n.toNat .empty) syms
 else if p.kind=3 then some (n-all) else some (n+mem)
def patchF (code:List In) (b:Ba) (syms:List Sym) (all mem:Int) (imps:List ByteArray) (p:Pa):Int×List In:=
 let i:=code.getD (b.1+p.pl.toNat) inD
 match numF b syms all mem imps p i.imm with
 | none=>(5,code)
 | some n=>if goodI ⟨i.op,i.a,i.b,i.c,n⟩ then (0,code.set (b.1+p.pl.toNat) ⟨i.op,i.a,i.b,i.c,n⟩) else (3,code)
theorem flat_set {α:Type} {cells:α→List Value} {sz:Nat} (hc:∀ a,(cells a).length=sz):∀ {l:List α} {k:Nat} (a:α),k<l.length→(l.flatMap cells).take (k*sz)++cells a++(l.flatMap cells).drop (k*sz+sz)=(l.set k a).flatMap cells
 | [],k,a,h=>by simp at h
 | b::l,0,a,h=>by
  rw [Nat.zero_mul,List.take_zero,List.nil_append,List.set_cons_zero,List.flatMap_cons,List.flatMap_cons,Nat.zero_add,List.drop_left' (hc b)]
 | b::l,k+1,a,h=>by
  have ih:=flat_set hc (l:=l) (k:=k) a (by simpa using h);rw [List.set_cons_succ,List.flatMap_cons,List.flatMap_cons,← ih];have e1:(k+1)*sz=(cells b).length+k*sz:=by rw [hc,Nat.add_mul];omega
  rw [e1,List.take_length_add_append,Nat.add_assoc,List.drop_length_add_append];simp
theorem insC_set {code:List In} {k:Nat} (e:In) {N:Nat} (h:k<code.length) (hN:N=k*5):(insC code).take N++[Value.int .i64 e.op,.int .i64 e.a,.int .i64 e.b,.int .i64 e.c,.int .i64 e.imm]++(insC code).drop (N+5)=insC (code.set k e):=by
 subst hN;exact flat_set (cells:=inV) (sz:=5) (fun _=>rfl) e h
theorem goodI_imm {i:In} (h:goodI i=true) : -32768≤i.imm∧i.imm≤32767:=by
 unfold goodI at h;simp only [Bool.and_eq_true,Bool.or_eq_true,decide_eq_true_eq] at h;rcases h.2 with h | ⟨_,h⟩
 ·omega
 ·unfold numI fits16 at h;split at h
  ·simp at h;omega
  ·split at h
   ·simp at h;omega
   ·split at h
    ·simp at h;omega
    ·simp at h;omega
theorem patchC (j g:Nat) (mem all:Int) (ca ba:Option Addr) (cc bn bc:Nat) (code:List In) (syms:List Sym) (o:Ob) (b:Ba) (p:Pa) (hok:OkOb o) (hg:goodP o.code.length o.imps.length p=true) (hb:b.1+o.code.length≤code.length) (hcl:code.length≤5000) (hmem:0≤mem∧mem≤32000) (hall:0≤all∧all≤32000) (hb2:0≤b.2∧b.2≤32000) (hgc:∀ i∈code,goodI i=true) :
  FnC (α:=Unit) Tryz.prog 37 [.pointer (some ⟨j,0,none⟩),obG o,.agg #[.int .i64 (b.1:Int),.int .i64 b.2],paG p] [joC j ca code.length cc all ba bn bc g mem,row ca cc 105 5 code.length (insC code),syM g syms] [rng o.ia (strC o.imps)] (fun _=>.int .i64 (patchF code b syms all mem o.imps p).1)
   (fun _=>[joC j ca code.length cc all ba bn bc g mem,row ca cc 105 5 code.length (insC (patchF code b syms all mem o.imps p).2),syM g syms]) (fun _=>True):=by
 have hg':¬ goodP o.code.length o.imps.length p=false:=by rw [hg];decide
 rw [goodP_parts] at hg';have hlt:b.1+p.pl.toNat<code.length:=by omega
 obtain ⟨e,he⟩:=some_at hlt;have hgi:=hgc e (List.mem_of_getElem? he);have hgd:code.getD (b.1+p.pl.toNat) inD=e:=by simp [he]
 have hall5:((insC code).drop (0+((b.1:Int)+p.pl).toNat*5)).take 5=[.int .i64 e.op,.int .i64 e.a,.int .i64 e.b,.int .i64 e.c,.int .i64 e.imm]:=insC_all he _ (by omega);have hil:=insC_len code;unfold patchF;rw [hgd];dsimp only;obtain ⟨onm,oca,occ,ocode,odata,oea,oec,oexps,oia,oic,oimps,opa,opc,opats⟩:=o;unfold obG paG joC syM;dsimp only at hg' hb ⊢;refine fn_intro Tryz.func37 Tryz.ntmps37 rfl rfl rfl (fun w0=>?_);try simp only [Sx.ap1,Sx.ap2,Sx.ap3]
 refine w_use (fun w hw=>(hw.pick 1 rfl).row_some (by first | omega | decide | (simp;done) | (simp <;> omega))) ?_;rintro ⟨g1,rfl⟩;refine rr ?_;intro b5 _;refine rr ?_;intro b6 _;refine rr ?_;intro b7 _;refine rr ?_;intro b10 _;refine rr ?_;have hgr : -32768≤e.imm∧e.imm≤32767:=goodI_imm hgi;unfold numF;by_cases h0:p.kind=0
 ·rw [if_pos h0];dsimp only;refine rr ?_;refine ca [] (rightIC ⟨e.op,e.a,e.b,e.c,(e.imm+(b.1:Int))⟩) ?_;intro x hx;try simp only [Sx.ap1,Sx.ap2,Sx.ap3]
  cases hg2:goodI ⟨e.op,e.a,e.b,e.c,(e.imm+(b.1:Int))⟩ with
  | false=>
   refine rr ?_;exact we () [4,4,4] trivial
  | true=>
   refine rr ?_;refine dr [0,1,2,3,4,5,6,7,8] [4,6] [4,0] ?_;refine rr ?_;have hset:=insC_set ⟨e.op,e.a,e.b,e.c,(e.imm+(b.1:Int))⟩ hlt (N:=0+((b.1:Int)+p.pl).toNat*5) (by omega);dsimp only at hset;refine w_sub [5,0,4] (H':=[_,row (some ⟨g1,0,none⟩) cc 105 5 code.length (insC (code.set (b.1+p.pl.toNat) ⟨e.op,e.a,e.b,e.c,(e.imm+(b.1:Int))⟩)),_]) (by rw [← hset];rfl) ?_;exact we () [0,0,0] trivial
 ·rw [if_neg h0];by_cases h1:p.kind=1
  ·rw [if_pos h1];dsimp only;refine rr ?_;refine ca [] (rightIC ⟨e.op,e.a,e.b,e.c,(e.imm+b.2)⟩) ?_;intro x hx;try simp only [Sx.ap1,Sx.ap2,Sx.ap3]
   cases hg2:goodI ⟨e.op,e.a,e.b,e.c,(e.imm+b.2)⟩ with
   | false=>
    refine rr ?_;exact we () [4,4,4] trivial
   | true=>
    refine rr ?_;refine dr [0,1,2,3,4,5,6,7,8] [4,6] [4,0] ?_;refine rr ?_;have hset:=insC_set ⟨e.op,e.a,e.b,e.c,(e.imm+b.2)⟩ hlt (N:=0+((b.1:Int)+p.pl).toNat*5) (by omega);dsimp only at hset;refine w_sub [5,0,4] (H':=[_,row (some ⟨g1,0,none⟩) cc 105 5 code.length (insC (code.set (b.1+p.pl.toNat) ⟨e.op,e.a,e.b,e.c,(e.imm+b.2)⟩)),_]) (by rw [← hset];rfl) ?_;exact we () [0,0,0] trivial
  ·rw [if_neg h1];by_cases h2:p.kind=2
   ·rw [if_pos h2];rw [if_pos h2] at hg';have hnl:p.n.toNat<oimps.length:=by omega
    obtain ⟨sn,hsn⟩:=some_at hnl;have hsd:oimps.getD p.n.toNat .empty=sn:=by simp [hsn]
    have hst:(strC oimps)[p.n.toNat*1]? = some (.string sn):=by rw [Nat.mul_one];exact strC_at hsn
    have hsl:=strC_len oimps;rw [hsd];have hat2:=atK_mMap sn syms;refine w_use (fun w hw=>(hw.pick 7 rfl).rng_some (by first | omega | decide | (simp;done) | (simp <;> omega))) ?_;rintro ⟨g2,rfl⟩;cases hs:symF sn syms with
    | none=>
     rw [hs] at hat2;simp only [Option.map_none] at hat2;dsimp only;refine rr ?_;refine dr [0,1,2,3,4,5,6,7,8,9,10,11,12,13,14,15] [3,5,7,9] [4,3,1,7] ?_;refine rr ?_;rw [hat2];refine rr ?_;exact we () [4,4,4] trivial
    | some tq=>
     rw [hs] at hat2;simp only [Option.map_some] at hat2;dsimp only;refine rr ?_;refine dr [0,1,2,3,4,5,6,7,8,9,10,11,12,13,14,15] [3,5,7,9] [4,3,1,7] ?_;refine rr ?_;rw [hat2];refine rr ?_;refine ca [] (rightIC ⟨e.op,e.a,e.b,e.c,tq⟩) ?_;intro x hx;try simp only [Sx.ap1,Sx.ap2,Sx.ap3]
     cases hg2:goodI ⟨e.op,e.a,e.b,e.c,tq⟩ with
     | false=>
      refine rr ?_;exact we () [4,4,4] trivial
     | true=>
      refine rr ?_;refine dr [0,1,2,3,4,5,6,7,8] [4,6] [4,0] ?_;refine rr ?_;have hset:=insC_set ⟨e.op,e.a,e.b,e.c,tq⟩ hlt (N:=0+((b.1:Int)+p.pl).toNat*5) (by omega);dsimp only at hset;refine w_sub [5,0,4] (H':=[_,row (some ⟨g1,0,none⟩) cc 105 5 code.length (insC (code.set (b.1+p.pl.toNat) ⟨e.op,e.a,e.b,e.c,tq⟩)),_]) (by rw [← hset];rfl) ?_;exact we () [0,0,0] trivial
   ·rw [if_neg h2];by_cases h3:p.kind=3
    ·rw [if_pos h3];dsimp only;refine rr ?_;refine dr [0,1,2,3,4,5,6,7,8,9] [1,6] [0,4] ?_;refine rr ?_;refine rr ?_;refine ca [] (rightIC ⟨e.op,e.a,e.b,e.c,(e.imm-all)⟩) ?_;intro x hx;try simp only [Sx.ap1,Sx.ap2,Sx.ap3]
     cases hg2:goodI ⟨e.op,e.a,e.b,e.c,(e.imm-all)⟩ with
     | false=>
      refine rr ?_;exact we () [4,4,4] trivial
     | true=>
      refine rr ?_;refine dr [0,1,2,3,4,5,6,7,8] [4,6] [4,0] ?_;refine rr ?_;have hset:=insC_set ⟨e.op,e.a,e.b,e.c,(e.imm-all)⟩ hlt (N:=0+((b.1:Int)+p.pl).toNat*5) (by omega);dsimp only at hset;refine w_sub [5,0,4] (H':=[_,row (some ⟨g1,0,none⟩) cc 105 5 code.length (insC (code.set (b.1+p.pl.toNat) ⟨e.op,e.a,e.b,e.c,(e.imm-all)⟩)),_]) (by rw [← hset];rfl) ?_;exact we () [0,0,0] trivial
    ·rw [if_neg h3];have h4:p.kind=4:=by omega
     dsimp only;refine rr ?_;refine dr [0,1,2,3,4,5,6,7,8] [1,5] [0,4] ?_;refine rr ?_;refine rr ?_;refine ca [] (rightIC ⟨e.op,e.a,e.b,e.c,(e.imm+mem)⟩) ?_;intro x hx;try simp only [Sx.ap1,Sx.ap2,Sx.ap3]
     cases hg2:goodI ⟨e.op,e.a,e.b,e.c,(e.imm+mem)⟩ with
     | false=>
      refine rr ?_;exact we () [4,4,4] trivial
     | true=>
      refine rr ?_;refine dr [0,1,2,3,4,5,6,7,8] [4,6] [4,0] ?_;refine rr ?_;have hset:=insC_set ⟨e.op,e.a,e.b,e.c,(e.imm+mem)⟩ hlt (N:=0+((b.1:Int)+p.pl).toNat*5) (by omega);dsimp only at hset;refine w_sub [5,0,4] (H':=[_,row (some ⟨g1,0,none⟩) cc 105 5 code.length (insC (code.set (b.1+p.pl.toNat) ⟨e.op,e.a,e.b,e.c,(e.imm+mem)⟩)),_]) (by rw [← hset];rfl) ?_;exact we () [0,0,0] trivial
end
section
set_option maxRecDepth 512
def patsF (b:Ba) (syms:List Sym) (all mem:Int) (imps:List ByteArray):List In→List Pa→Int×List In
 | code,[]=>(0,code)
 | code,p::l=>let r:=patchF code b syms all mem imps p
  if r.1=0 then patsF b syms all mem imps r.2 l else r
def objsF (syms:List Sym) (all mem:Int):List In→List (Ba×Ob)→Int×List In
 | code,[]=>(0,code)
 | code,x::l=>let r:=patsF x.1 syms all mem x.2.imps code x.2.pats
  if r.1=0 then objsF syms all mem r.2 l else r
def linkF (l:List Ob) (mem:Int):List In×Int×Int:=
 if l.length=0∨mem<0∨32000<mem∨l.any (fun o => !goodO o)=true then ([],0,1)
 else match namesF [] [] 0 l with
  | none=>([],0,6)
  | some syms=>if 4096<(codeF l).length∨mem<dataF l then ([],0,4)
   else let r:=objsF syms (dataF l) mem (codeF l) ((baseK l l.length).zip l)
    if r.1=0 then (r.2,dataF l,0) else ([],0,r.1)
theorem patchF_len (code:List In) (b:Ba) (syms:List Sym) (all mem:Int) (imps:List ByteArray) (p:Pa):(patchF code b syms all mem imps p).2.length=code.length:=by
 unfold patchF;dsimp only;split
 ·rfl
 ·split <;> simp
theorem patchF_good {code:List In} {b:Ba} {syms:List Sym} {all mem:Int} {imps:List ByteArray} {p:Pa} (h:∀ i∈code,goodI i=true):∀ i∈(patchF code b syms all mem imps p).2,goodI i=true:=by
 unfold patchF;dsimp only;split
 ·exact h
 ·split
  ·intro i hi;rcases List.mem_or_eq_of_mem_set hi with hi | rfl
   ·exact h i hi
   ·assumption
  ·exact h
end
section
set_option maxRecDepth 512
theorem atF_in {l:List Ob} {k:Nat} {o:Ob} (h:l[k]? = some o):atF l k+o.code.length≤atF l l.length:=by
 rw [← atF_step h];rw [← codeF_take,← codeF_take,List.take_length]
 have:codeF l=codeF (l.take (k+1))++codeF (l.drop (k+1)):=by
  unfold codeF;rw [← List.flatMap_append,List.take_append_drop]
 rw [this,List.length_append];omega
theorem dataF_mono {l:List Ob} (h:∀ o∈l,0≤o.data∧o.data≤32000) (k:Nat):dataF (l.take k)≤dataF l:=by
 have h2:=(dataF_le (l:=l.drop k) (fun o ho=>h o (List.mem_of_mem_drop ho))).1
 have:dataF l=dataF (l.take k)+dataF (l.drop k):=by
  unfold dataF;rw [← List.sum_append_int,← List.map_append,List.take_append_drop]
 omega
theorem patsF_cons (b:Ba) (syms:List Sym) (all mem:Int) (imps:List ByteArray) (code:List In) (p:Pa) (l:List Pa):patsF b syms all mem imps code (p::l)=if (patchF code b syms all mem imps p).1=0 then patsF b syms all mem imps (patchF code b syms all mem imps p).2 l else patchF code b syms all mem imps p:=rfl
theorem patsF_nil (b:Ba) (syms:List Sym) (all mem:Int) (imps:List ByteArray) (code:List In):patsF b syms all mem imps code []=(0,code):=rfl
theorem objsF_cons (syms:List Sym) (all mem:Int) (code:List In) (x:Ba×Ob) (l:List (Ba×Ob)):objsF syms all mem code (x::l)=if (patsF x.1 syms all mem x.2.imps code x.2.pats).1=0 then objsF syms all mem (patsF x.1 syms all mem x.2.imps code x.2.pats).2 l else patsF x.1 syms all mem x.2.imps code x.2.pats:=rfl
theorem objsF_nil (syms:List Sym) (all mem:Int) (code:List In):objsF syms all mem code []=(0,code):=rfl
def linkV (r:List In×Int×Int) (x:Option Addr×Nat):Value:=.tuple #[.agg #[.slice x.1 r.1.length x.2,.int .i64 r.2.1],.int .i64 r.2.2]
theorem linkC (a:Option Addr) (c:Nat) (l:List Ob) (mem:Int) (hl:l.length≤1000) (hok:∀ o∈l,OkOb o) :
  FnC Tryz.prog 14 [.slice a l.length c,.int .i64 mem] [] [rng a (obC l),seeO l] (fun x:Option Addr×Nat=>linkV (linkF l mem) x) (fun x=>[row x.1 x.2 105 5 (linkF l mem).1.length (insC (linkF l mem).1)]) (fun _=>True):=by
 refine fn_intro Tryz.func14 Tryz.ntmps14 rfl rfl rfl (fun w0=>?_);try simp only [Sx.ap1,Sx.ap2,Sx.ap3]
 unfold linkV;by_cases h1:l.length=0
 ·have hf:linkF l mem=([],0,1):=by unfold linkF;rw [if_pos (.inl h1)]
  rw [hf];refine rr ?_;intro b4 _;refine rr ?_;refine w_turn (fun w hw=>hw.row_nil 105 5) ?_;exact we (none,0) [0] trivial
 by_cases h2:mem<0
 ·have hf:linkF l mem=([],0,1):=by unfold linkF;rw [if_pos (.inr (.inl h2))]
  rw [hf];refine rr ?_;intro b4 _;refine rr ?_;refine w_turn (fun w hw=>hw.row_nil 105 5) ?_;exact we (none,0) [0] trivial
 by_cases h3:32000<mem
 ·have hf:linkF l mem=([],0,1):=by unfold linkF;rw [if_pos (.inr (.inr (.inl h3)))]
  rw [hf];refine rr ?_;intro b4 _;refine rr ?_;refine w_turn (fun w hw=>hw.row_nil 105 5) ?_;exact we (none,0) [0] trivial
 refine rr ?_;intro b4 _;refine rr ?_;refine ca [] (containsOC a c l (by omega) hok) ?_;intro x hx;try simp only [Sx.ap1,Sx.ap2,Sx.ap3]
 cases h4:l.any (fun o => !goodO o) with
 | true=>
  have hf:linkF l mem=([],0,1):=by unfold linkF;rw [if_pos (.inr (.inr (.inr h4)))]
  rw [hf];refine rr ?_;refine w_turn (fun w hw=>hw.row_nil 105 5) ?_;exact we (none,0) [0] trivial
 | false=>
 have hgood:∀ o∈l,goodO o=true:=fun o ho=>by
  rw [List.any_eq_false] at h4;have:=h4 o ho
  simpa using this
 have hcode:∀ o∈l,o.code.length≤4096:=fun o ho=>((goodO_parts o).1 (hgood o ho)).2.2.1
 have hdata:∀ o∈l,0≤o.data∧o.data≤32000:=fun o ho=>⟨((goodO_parts o).1 (hgood o ho)).2.2.2.2.1,((goodO_parts o).1 (hgood o ho)).2.2.2.2.2.1⟩
 have hexps:∀ o∈l,o.code.length≤4096∧∀ x∈o.exps,0≤x.pl∧x.pl≤4096:=fun o ho=>⟨hcode o ho,fun x hx=>by
  have h5:=((goodO_parts o).1 (hgood o ho)).1;rw [List.all_eq_true] at h5;have h6:=h5 x hx;have h7:=hcode o ho;simp only [goodE,Bool.and_eq_true,decide_eq_true_eq] at h6;omega⟩
 refine rr ?_;intro g _;show Wd _ _ (mapC Value.string g (mMap [])::_) _
 refine rr ?_;intro j _;refine rr ?_;refine ca [0,0] (namesC j g mem a c l hl hok hexps) ?_;intro x hx;try simp only [Sx.ap1,Sx.ap2,Sx.ap3]
 have hcond:¬ (l.length=0∨mem<0∨32000<mem∨l.any (fun o => !goodO o)=true):=by
  rintro (h | h | h | h)
  ·exact h1 h
  ·exact h2 h
  ·exact h3 h
  ·rw [h4] at h;cases h
 obtain ⟨sy,hsy⟩:∃ sy,sy=x:=⟨x,rfl⟩
 subst hsy;cases h5:namesF [] [] 0 l with
 | none=>
  have hf:linkF l mem=([],0,6):=by unfold linkF;rw [if_neg hcond,h5]
  rw [hf];refine rr ?_;refine w_turn (fun w hw=>hw.row_nil 105 5) ?_;exact we (none,0) [0] trivial
 | some syms=>
 have hxs:=hx syms h5;clear hx;subst hxs;refine rr ?_;refine ca [0] (joinC j g mem a c l hl hcode hdata) ?_;intro x hx;try simp only [Sx.ap1,Sx.ap2,Sx.ap3]
 obtain ⟨ra,rc,ba,bc⟩:=x;have hat:=atF_le hcode l.length;have hdt:=dataF_le hdata;have hl7:∀ k,dataF (l.take k)≤dataF l:=dataF_mono hdata;have hcl:(codeF l).length=atF l l.length:=by have:=codeF_take l l.length;rwa [List.take_length] at this
 unfold joH joC;rw [List.take_length];dsimp only;simp only [List.cons_append,List.nil_append];by_cases h6:4096<atF l l.length
 ·have hf:linkF l mem=([],0,4):=by unfold linkF;rw [if_neg hcond,h5];dsimp only;rw [if_pos (.inl (by omega))]
  rw [hf];refine rr ?_;refine w_turn (fun w hw=>hw.row_nil 105 5) ?_;exact we (none,0) [0] trivial
 by_cases h7:mem<dataF l
 ·have hf:linkF l mem=([],0,4):=by unfold linkF;rw [if_neg hcond,h5];dsimp only;rw [if_pos (.inr h7)]
  rw [hf];refine rr ?_;refine w_turn (fun w hw=>hw.row_nil 105 5) ?_;exact we (none,0) [0] trivial
 have hf:linkF l mem=if (objsF sy (dataF l) mem (codeF l) ((baseK l l.length).zip l)).1=0 then ((objsF sy (dataF l) mem (codeF l) ((baseK l l.length).zip l)).2,dataF l,0) else ([],0,(objsF sy (dataF l) mem (codeF l) ((baseK l l.length).zip l)).1):=by
  unfold linkF;rw [if_neg hcond,h5];dsimp only;rw [if_neg (by omega)]
 have hz:∀ k o,l[k]? = some o→((baseK l l.length).zip l)[k]? = some ((atF l k,dataF (l.take k)),o):=fun k o h=>by
  have hk:=(List.getElem?_eq_some_iff.1 h).1;rw [List.getElem?_zip_eq_some];refine ⟨?_,h⟩;simp [baseK,hk]
 have hzl:((baseK l l.length).zip l).length=l.length:=by simp [baseK]
 generalize (baseK l l.length).zip l=z at hf hz hzl;generalize hR:objsF sy (dataF l) mem (codeF l) z=R at hf
 have hgc0:∀ i∈codeF l,goodI i=true:=fun i hi=>by
  obtain ⟨o,ho,hi⟩:=List.mem_flatMap.1 hi;have h8:=((goodO_parts o).1 (hgood o ho)).2.2.2.1;rw [List.any_eq_false] at h8;have:=h8 i hi
  simpa using this
 rw [hf];refine rr ?_
 refine w_loop (α:=Nat×List In) (fun x=>[(1,.int .i64 mem),(4,.pointer (some ⟨b4,0,none⟩)),(6,.pointer (some ⟨j,0,none⟩)),(57,.slice a l.length c),(58,.int .i64 (l.length:Int)),(59,.int .i64 (x.1:Int))])
  (fun x=>[blk j [.slice ra (atF l l.length) rc,.int .i64 (dataF l),.slice ba l.length bc,.map (some g),.int .i64 mem] 90,row ra rc 105 5 (atF l l.length) (insC x.2),row ba bc 97 2 l.length (baC (baseK l l.length)),mapC Value.string g (mMap sy),blk b4 [.slice none 0 0,.int .i64 0] 26,rng a (obC l),seeO l])
  (fun x=>x.1≤l.length∧x.2.length=atF l l.length∧(∀ i∈x.2,goodI i=true)∧R=objsF sy (dataF l) mem x.2 (z.drop x.1)) (fun x=>l.length-x.1) (0,codeF l) ⟨rfl,rfl,rfl,rfl,rfl,rfl,trivial⟩ rfl ⟨Nat.zero_le _,hcl,hgc0,hR.symm⟩ ?_
 rintro ⟨k,code⟩ ⟨hk,hcn,hgc,hRk⟩ K1 hK1;dsimp only at hk hcn hgc hRk ⊢;by_cases hlt:k<l.length
 ·obtain ⟨o,he⟩:=some_at hlt;have hmem:=List.mem_of_getElem? he;have hzk:=hz k o he
  have hdrop:z.drop k=((atF l k,dataF (l.take k)),o)::z.drop (k+1):=by
   obtain ⟨hi,hb⟩:=List.getElem?_eq_some_iff.1 hzk;rw [List.drop_eq_getElem_cons hi,hb]
  rw [hdrop] at hRk;have hall:((obC l).drop ((k:Int).toNat*6)).take 6=[.string o.name,.slice o.ca o.code.length o.cc,.int .i64 o.data,.slice o.ea o.exps.length o.ec,.slice o.ia o.imps.length o.ic,.slice o.pa o.pats.length o.pc]:=obC_all he _ (by omega);have hlen:=obC_len l;refine rr ?_;intro b8 _;refine rr ?_;refine w_turn (fun w hw=>look_ob hw (c:=rng o.pa (paC o.pats)) (k:=7) rfl hmem (by simp [obS]) rfl) ?_;have hoe:=hok o hmem;have hpl:=hoe.pats;have hgp:=((goodO_parts o).1 (hgood o hmem)).2.2.2.2.2.2.2.2
  refine w_loop (α:=Nat×List In) (fun x=>[(1,.int .i64 mem),(4,.pointer (some ⟨b4,0,none⟩)),(6,.pointer (some ⟨j,0,none⟩)),(7,.int .i64 (k:Int)),(8,.pointer (some ⟨b8,0,none⟩)),(57,.slice a l.length c),(58,.int .i64 (l.length:Int)),(59,.int .i64 (k:Int)),(65,.slice o.pa o.pats.length o.pc),(66,.int .i64 (o.pats.length:Int)),(67,.int .i64 (x.1:Int))])
   (fun x=>[rng o.pa (paC o.pats),blk b8 [.string o.name,.slice o.ca o.code.length o.cc,.int .i64 o.data,.slice o.ea o.exps.length o.ec,.slice o.ia o.imps.length o.ic,.slice o.pa o.pats.length o.pc] 36,blk j [.slice ra (atF l l.length) rc,.int .i64 (dataF l),.slice ba l.length bc,.map (some g),.int .i64 mem] 90,row ra rc 105 5 (atF l l.length) (insC x.2),row ba bc 97 2 l.length (baC (baseK l l.length)),mapC Value.string g (mMap sy),blk b4 [.slice none 0 0,.int .i64 0] 26,rng a (obC l),seeO l])
   (fun x=>x.1≤o.pats.length∧x.2.length=atF l l.length∧(∀ i∈x.2,goodI i=true)∧patsF (atF l k,dataF (l.take k)) sy (dataF l) mem o.imps code o.pats=patsF (atF l k,dataF (l.take k)) sy (dataF l) mem o.imps x.2 (o.pats.drop x.1)) (fun x=>o.pats.length-x.1) (0,code) ⟨rfl,rfl,rfl,rfl,rfl,rfl,rfl,rfl,rfl,rfl,rfl,trivial⟩ rfl ⟨Nat.zero_le _,hcn,hgc,rfl⟩ ?_
  rintro ⟨i,code2⟩ ⟨hi,hcn2,hgc2,hPk⟩ K2 hK2;dsimp only at hi hcn2 hgc2 hPk ⊢;by_cases hil:i<o.pats.length
  ·obtain ⟨p,hp⟩:=some_at hil;have hpm:=List.mem_of_getElem? hp;have hall2:((paC o.pats).drop ((i:Int).toNat*3)).take 3=[.int .i64 p.pl,.int .i64 p.kind,.int .i64 p.n]:=paC_all hp _ (by omega);have hpln:=paC_len o.pats
   have hdp:o.pats.drop i=p::o.pats.drop (i+1):=by
    obtain ⟨hi',hb⟩:=List.getElem?_eq_some_iff.1 hp;rw [List.drop_eq_getElem_cons hi',hb]
   rw [hdp] at hPk
   have hgp1:goodP o.code.length o.imps.length p=true:=by
    have:=hgp.2;rw [List.any_eq_false] at this;have:=this p hpm
    simpa using this
   refine rr ?_;intro b10 _;have hbk:(baseK l l.length)[k]? = some (atF l k,dataF (l.take k)):=by simp [baseK,hlt]
   have hbl:(baseK l l.length).length=l.length:=by simp [baseK]
   have hbc:=baC_len (baseK l l.length)
   have hall3:((baC (baseK l l.length)).drop ((k:Int).toNat*2)).take 2=[.int .i64 (atF l k:Int),.int .i64 (dataF (l.take k))]:=by
    rw [show (k:Int).toNat*2=k*2 by omega];exact flat_get (cells:=baV) (sz:=2) (fun _=>rfl) hbk
   refine rr ?_;have pc:=patchC j g mem (dataF l) ra ba rc l.length bc code2 sy o (atF l k,dataF (l.take k)) p hoe hgp1 (by rw [hcn2];exact atF_in he) (by omega) ⟨by omega,by omega⟩ ⟨by omega,by omega⟩ ⟨(dataF_le (fun o ho=>hdata o (List.mem_of_mem_take ho))).1,Int.le_trans (hl7 k) (by omega)⟩ hgc2;rw [hcn2] at pc;refine dx [0,1,2,3,4,5,6,7,8,9,10,11] [1,5,8,9] [4] ?_;refine rr ?_;refine cld (pc) (hl:=lend_prov rfl ((seeO_prov hmem (by simp [obS])).one (prov_mem (nthC_mem (i:=6) rfl))) trivial) ?_;intro x hx;try simp only [Sx.ap1,Sx.ap2,Sx.ap3]
   generalize hpf:patchF code2 (atF l k,dataF (l.take k)) sy (dataF l) mem o.imps p=pf at hPk;have hpl3:pf.2.length=atF l l.length:=by rw [← hpf,patchF_len,hcn2]
   by_cases hz0:pf.1=0
   ·skip
    refine rr ?_;refine ro hK2 (i+1,pf.2) ⟨by omega,hpl3,by rw [← hpf];exact patchF_good hgc2,?_⟩;rw [hPk,patsF_cons,hpf,if_pos hz0]
   ·have hR2:R=pf:=by
     rw [hRk];rw [objsF_cons];dsimp only;rw [hPk,patsF_cons,hpf,if_neg hz0,if_neg hz0]
    rw [hR2,if_neg hz0];refine rr ?_;refine w_turn (fun w hw=>hw.row_nil 105 5) ?_;exact en (none,0) trivial
  ·obtain rfl:i=o.pats.length:=by omega
   rw [List.drop_length] at hPk;refine rr ?_;refine ro hK1 (k+1,code2) ⟨by omega,hcn2,hgc2,?_⟩;rw [hRk,objsF_cons];dsimp only;rw [hPk,patsF_nil,if_pos rfl]
 ·obtain rfl:k=l.length:=by omega
  rw [List.drop_of_length_le (by omega)] at hRk;rw [objsF_nil] at hRk;subst hRk;rw [if_pos rfl];dsimp only;rw [hcn];refine rr ?_;exact en (ra,rc) trivial
end
end Go.Proofs.YtkolmklfgbimoaaGreatDoor
namespace Go.Proofs.YtkolmklfgbimoaaGreatDoor.Cm
open Go Go.Sx Go.Sx.Chunk
def obOf (o:Ob6) (x:Ax):Ob:=⟨o.name,x.ca,x.cc,o.code,o.data,x.ea,x.ec,o.exps,x.ia,x.ic,o.imps,x.pa,x.pc,o.pats⟩
def ax0:Ax:=⟨none,0,none,0,none,0,none,0⟩
end Go.Proofs.YtkolmklfgbimoaaGreatDoor.Cm
namespace Go.Proofs.YtkolmklfgbimoaaGreatDoor.Cm
open Go
theorem comp_ok (s:ByteArray) (hs:s.size≤1000000) (x:Ax):OkOb (obOf (compO (Sc.txt s)) x):=by
 have hlen:=Sc.scanD_len _ 0 (Sc.txt s) (Nat.le_refl _);have hok:=Sc.scanD_ok _ 0 (Sc.txt s) (Nat.le_refl _);rw [Sc.txt_len] at hlen;have hob:OkOb (obOf ob0 x):={ name:=(by decide:(0:Nat)≤maxLen),code:=(by decide:(0:Nat)≤3518437208780),exps:=(by decide:(0:Nat)≤5864062014634),imps:=(by decide:(0:Nat)≤8796093021952),pats:=(by decide:(0:Nat)≤5864062014634),ens:=fun y hy=>(by cases hy),ins:=fun y hy=>(by cases hy) }
 have hcl:=comp_len (Sc.txt s);unfold compO compF at hcl ⊢;rw [Sc.txt_len] at hcl ⊢;generalize Sc.scanD 0 (Sc.txt s)=r at *;obtain ⟨l,pl,e⟩:=r;dsimp only at *;split
 ·exact hob
 ·rename_i he;rw [if_neg he] at hcl;have hg0:GD (cs0 l (s.size:Int)):=⟨Nat.zero_le _,by simp [cs0],fun t ht=>⟨(hok t ht).num.1,(hok t ht).num.2⟩,by simp [cs0]⟩
  have hw0:wt (cs0 l (s.size:Int))≤100000000:=by simp [wt,cs0];omega
  have hwP:=dx_program (l.length+1) _ hg0;have hnb:=(nx_program (l.length+1) (cs0 l (s.size:Int))).g 16 ⟨(by show ByteArray.empty.size≤16;decide),(fun y hy=>by cases hy),(fun y hy=>by cases hy),(fun t ht hk=>((hok t ht).len hk).2)⟩;generalize mProgram (l.length+1) (cs0 l (s.size:Int))=sP at *
  have hkey:∀ q:CS,Nb 16 q→wt q≤200000000→OkOb (obOf ⟨q.name,q.code,q.data,q.exps,q.imps,q.pats⟩ x):=fun q hn hw=>by
   unfold wt at hw;have hm:16≤maxLen:=by decide
   exact { name:=Nat.le_trans hn.na hm,code:=(by show q.code.length≤_;omega),exps:=(by show q.exps.length≤_;omega),imps:=(by show q.imps.length≤_;omega),pats:=(by show q.pats.length≤_;omega),ens:=fun y hy=>Nat.le_trans (hn.xp y hy) hm,ins:=fun y hy=>Nat.le_trans (hn.im y hy) hm }
  split
  ·split
   ·exact hob
   ·exact hkey _ ((nx_stop 4 _ sP).g 16 hnb) (by have:=(ex_stop 4 (s.size:Int) sP).w;omega)
  ·split
   ·exact hob
   ·exact hkey _ hnb (by omega)
end Go.Proofs.YtkolmklfgbimoaaGreatDoor.Cm
namespace Go.Proofs.YtkolmklfgbimoaaGreatDoor
open Go Go.Sx Go.Sx.Chunk
section
set_option maxRecDepth 512
def inI (v:Int) (l:List Int):Bool:=l.any fun s=>decide (s=v)
def iMap (l:List Int):List (Int×Value):=l.map fun s=>(s,.bool true)
theorem atK_iMap (v:Int):∀ l,atK (iMap l) v=if inI v l then some (.bool true) else none
 | []=>rfl
 | a::l=>by
  have ih:=atK_iMap v l;simp only [iMap,List.map_cons,atK] at ih ⊢;by_cases h:a=v
  ·subst h;simp [inI]
  ·have h':¬ v=a:=fun e=>h e.symm
   simp only [inI,List.any_cons,h,decide_false,Bool.false_or] at ih ⊢
   first | (rw [if_neg h];exact ih) | (rw [if_neg h'];exact ih)
theorem putK_iMap (v:Int):∀ l,inI v l=false→putK (iMap l) v (.bool true)=iMap (l++[v])
 | [],_=>rfl
 | a::l,h=>by
  simp only [inI,List.any_cons,Bool.or_eq_false_iff,decide_eq_false_iff_not] at h;have ih:=putK_iMap v l h.2;have h':¬ v=a:=fun e=>h.1 e.symm
  simp only [iMap,List.map_cons,List.cons_append,putK] at ih ⊢
  first | rw [if_neg h.1,ih] | rw [if_neg h',ih]
def mapI (m:Option Nat) (l:List Int):Chunk:=match m with
 | none=>genL []
 | some g=>mapC (Value.int .i64) g (iMap l)
def setI (b:Nat) (m:Option Nat) (oa:Option Addr) (oc:Nat) (l:List Int):List Chunk:=[blk b [.map m,.slice oa l.length oc] 231,row oa oc 3 1 l.length (i64C l),mapI m l]
def setIOk (m:Option Nat) (l:List Int):Prop:=m=none→l=[]
theorem setIW {b:Nat} {m:Option Nat} {oa:Option Addr} {oc:Nat} {l:List Int}:allW (setI b m oa oc l)=true:=by cases m <;> rfl
set_option maxRecDepth 100000 in
theorem setIHasC (b:Nat) (m:Option Nat) (oa:Option Addr) (oc:Nat) (l:List Int) (v:Int) (hm:setIOk m l) :
  FnC (α:=Unit) Tryz.prog 223 [.pointer (some ⟨b,0,none⟩),.int .i64 v] (setI b m oa oc l) [] (fun _=>.bool (inI v l)) (fun _=>setI b m oa oc l) (fun _=>True):=by
 refine fn_intro Tryz.func223 Tryz.ntmps223 rfl rfl rfl (fun w0=>?_);try simp only [Sx.ap1,Sx.ap2,Sx.ap3]
 unfold setI;cases m with
 | none=>
  obtain rfl:=hm rfl;refine rr ?_;exact we () [0,0,0] trivial
 | some g=>
  simp only [mapI];refine rr ?_;rw [atK_iMap];refine we () [0,0,0] trivial (hv:=?_);cases h:inI v l <;> rfl
set_option maxRecDepth 100000 in
theorem setIAddC (b:Nat) (m:Option Nat) (oa:Option Addr) (oc:Nat) (l:List Int) (v:Int) (hm:setIOk m l) (hl:l.length≤8796093021952) :
  FnC Tryz.prog 184 [.pointer (some ⟨b,0,none⟩),.int .i64 v] (setI b m oa oc l) [] (fun _:Option Nat×Option Addr×Nat=>.bool (!inI v l)) (fun x=>setI b x.1 x.2.1 x.2.2 (if inI v l then l else l++[v])) (fun x=>setIOk x.1 (if inI v l then l else l++[v])):=by
 refine fn_intro Tryz.func184 Tryz.ntmps184 rfl rfl rfl (fun w0=>?_);refine rrs ?_;refine ca [0,0,0] (setIHasC b m oa oc l v hm) (ho:=fun _=>setIW) ?_;intro x hx;try simp only [Sx.ap1,Sx.ap2,Sx.ap3]
 cases h:inI v l with
 | true=>
  refine rr ?_;exact we (m,oa,oc) [0,0,0] (by rw [if_pos rfl];exact hm)
 | false=>
  unfold setI;cases m with
  | none=>
   obtain rfl:=hm rfl;refine rr ?_;intro g _;show Wd _ _ (mapC (Value.int .i64) g []::_) _
   refine rr ?_;intro b1 _;refine rr ?_;rintro ⟨a1,c1⟩ ⟨hc1,_⟩;refine rr ?_;exact we (some g,a1,c1) [0,0,0] (fun h=>by cases h)
  | some g=>
   simp only [mapI];refine rr ?_;intro b1 _;refine rr ?_;rintro ⟨a1,c1⟩ ⟨hc1,_⟩;refine rr ?_;have hlen:l.length+1=(l++[v]).length:=by simp
   have hstr:i64C l++[(Value.int .i64) v]=i64C (l++[v]):=by simp [i64C]
   rw [putK_iMap v l h,hlen,hstr];exact we (some g,a1,c1) [0,0,0] (fun h=>by cases h)
end
end Go.Proofs.YtkolmklfgbimoaaGreatDoor
namespace Go.Proofs.YtkolmklfgbimoaaGreatDoor
open Go
def nopI:In:=⟨0,0,0,0,0⟩
def sysF (n:Int):List Int×Int:=if n=1 then ([],4) else if n=2 then ([4],0) else ([],0)
def fieldsF (i:In):List Int×Int:=
 if 1≤i.op∧i.op≤9 then ([i.b,i.c],i.a)
 else if i.op=10∨i.op=12 then ([i.b],i.a)
 else if i.op=11 then ([],i.a)
 else if i.op=13∨i.op=15∨i.op=16 then ([i.a,i.b],0)
 else if i.op=14∨i.op=19 then ([i.a],0)
 else if i.op=18 then ([],31)
 else if i.op=20 then sysF i.imm
 else ([],0)
def writesF (i:In):Int:=if goodI i then (fieldsF i).2 else 0
def readsB (i:In) (n:Int):Bool:=decide (n≠0) && (goodI i && (fieldsF i).1.contains n)
def actsF (i:In):Bool:=decide (i.op=4∨i.op=5∨i.op=12∨i.op=13∨i.op=14∨i.op=20) && goodI i
def goesF (i:In):Bool:=decide (15≤i.op∧i.op≤19) && goodI i
def lateF (i:In):Bool:=goodI i && (decide (i.op=12) || (decide (i.op=20) && decide (i.imm=1)))
def farF (a b:In):Int:=
 if readsB b (writesF a) && lateF a then 2
 else if readsB b (writesF a) || (decide (writesF a≠0) && decide (writesF a=writesF b)) || readsB a (writesF b) || (actsF a && actsF b) then 1
 else 0
theorem farF_le (a b:In):0≤farF a b∧farF a b≤2:=by
 unfold farF;split
 ·omega
 ·split <;> omega
def maxF (a:In):List In→List Int→Int→Int
 | b::l,h::hs,m=>maxF a l hs (if 0<farF a b then max m (farF a b+h) else m)
 | _,_,m=>m
def htsF:List In→List Int
 | []=>[]
 | a::l=>maxF a l (htsF l) 0::htsF l
theorem htsF_len:∀ l,(htsF l).length=l.length
 | []=>rfl
 | a::l=>by rw [htsF,List.length_cons,htsF_len l,List.length_cons]
def blocksF (l:List In) (at':List Int) (j i:Nat) (p:Int):Bool:=
 decide (0<farF (l.getD i nopI) (l.getD j nopI)) && (decide (at'.getD i 0<0) || decide (p<at'.getD i 0+farF (l.getD i nopI) (l.getD j nopI)))
def readyF (l:List In) (at':List Int) (j:Nat) (p:Int):Bool:=decide (at'.getD j 0<0) && (List.range j).all fun i => !blocksF l at' j i p
def candsF (l:List In) (at':List Int) (p:Int):List Nat:=(List.range l.length).filter fun j=>readyF l at' j p
def bestG (h:List Int):Option Nat→List Nat→Option Nat
 | b,[]=>b
 | none,v::l=>bestG h (some v) l
 | some u,v::l=>bestG h (some (if h.getD u 0<h.getD v 0 then v else u)) l
def bestF (h:List Int) (l:List Nat):Option Nat:=bestG h none l
def orderG (l:List In) (h:List Int):Nat→List Int→List Int→Nat→List Int
 | 0,_,out,_=>out
 | f+1,at',out,left=>if left=0 then out else match bestF h (candsF l at' (out.length:Int)) with
  | none=>orderG l h f at' (out++[-1]) left
  | some b=>orderG l h f (at'.set b (out.length:Int)) (out++[(b:Int)]) (left-1)
def orderF (l:List In):List Int:=orderG l (htsF l) (2*l.length+1) (List.replicate l.length (-1)) [] l.length
def clearG (l:List In) (last:In) (p:Int):Nat→List Int→Bool
 | _,[]=>true
 | k,n::o=>if 0≤n∧p<(k:Int)+farF (l.getD n.toNat nopI) last then false else clearG l last p (k+1) o
def clearF (l:List In) (o:List Int) (last:In) (p:Int):Bool:=clearG l last p 0 o
def padG (l:List In) (o:List Int) (last:In):List Int:=if clearF l o last (o.length:Int) then o else o++[-1]
def layF (l:List In):List Int:=
 if l=[] then [] else
 let e:=l.length-1
 let last:=l.getD e nopI
 if goesF last then
  let o:=orderF (l.take e)
  let k:=o.length-1
  let x:=l.getD (o.getD k 0).toNat nopI
  if decide (o≠[]) && !lateF x && decide (farF x last=0) && clearF l (o.take k) last (k:Int) then o.take k++[(e:Int),o.getD k 0]
  else padG l o last++[(e:Int),-1]
 else
  let o:=orderF l
  let n:=o.getD (o.length-1) 0
  if decide (0≤n) && lateF (l.getD n.toNat nopI) then o++[-1] else o
def pickF (l:List In) (o:List Int):List In:=o.map fun (n:Int)=>if 0≤n∧n<(l.length:Int) then l.getD n.toNat nopI else nopI
def targetF (i:In) (at':Int):Option Int:=if goodI i then (if i.op=15∨i.op=16 then some (at'+1+i.imm) else if i.op=17∨i.op=18 then some i.imm else none) else none
def fitI (n:Nat) (at':Int) (i:In):Bool:=goodI i && (match targetF i at' with
 | some t=>decide (0≤t∧t≤n)
 | none=>true)
def fitG (n:Nat):Nat→List In→Bool
 | _,[]=>true
 | k,i::l=>fitI n (k:Int) i && fitG n (k+1) l
def fitF (code:List In):Bool:=decide (code.length≤4096) && fitG code.length 0 code
def tellF (at':Nat) (i:In):List Int:=(match targetF i (at':Int) with
 | some t=>[t]
 | none=>[])++(if goesF i then [(at':Int)+1] else [])
def tellG:Nat→List In→List Int
 | _,[]=>[]
 | k,i::l=>tellF k i++tellG (k+1) l
def headsF (code:List In):List Nat:=if fitF code∧code≠[] then (List.range code.length).filter fun k=>(0::tellG 0 code).contains (k:Int) else []
def cutF (n:Nat):List Nat→List (Nat×Nat)
 | []=>[]
 | [a]=>[(a,n)]
 | a::b::l=>(a,b)::cutF n (b::l)
def blocksL (code:List In):List (Nat×Nat):=cutF code.length (headsF code)
structure Laid where
 mk ::
 (code:List In) (places:List Int) (anew:List (Int×Int)) (olds:List Int)
def putM:List (Int×Int)→Int→Int→List (Int×Int)
 | [],k,v=>[(k,v)]
 | (a,b)::m,k,v=>if k=a then (a,v)::m else (a,b)::putM m k v
def newF:List (Int×Int)→Int→Int
 | [],_=>0
 | (a,b)::m,k=>if k=a then b else newF m k
def headG (old:Nat) (s:Laid):Laid:={ s with places:=s.places++[(s.code.length:Int)],anew:=putM s.anew (old:Int) (s.code.length:Int) }
def layB (code:List In) (b:Nat×Nat) (s:Laid):Laid:=
 let s1:=headG b.1 s
 let l:=(code.take b.2).drop b.1
 { s1 with code:=s1.code++pickF l (layF l),olds:=s1.olds++(layF l).map fun n=>if 0≤n then (b.1:Int)+n else -1 }
def layAll (code:List In):Laid:=headG code.length ((blocksL code).foldl (fun s b=>layB code b s) ⟨[],[],[],[]⟩)
def aimF (code:List In) (m:List (Int×Int)) (at':Nat) (old:Int) (j:In):Option In:=
 if old<0 then some j else match targetF (code.getD old.toNat nopI) old with
 | none=>some j
 | some t=>
  let k:In:={ j with imm:=if j.op=15∨j.op=16 then newF m t-((at':Int)+1) else newF m t }
  if goodI k then some k else none
def aimG (code:List In) (m:List (Int×Int)):Nat→List Int→List In→Option (List In)
 | k,o::os,j::l=>match aimF code m k o j with
  | none=>none
  | some i=>(aimG code m (k+1) os l).map fun r=>i::r
 | _,_,l=>some l
def reorgF (code:List In):List In×List Int×Int:=
 if fitF code then
  let s:=layAll code
  if s.code.length>4096 then ([],[],4) else match aimG code s.anew 0 s.olds s.code with
  | none=>([],[],3)
  | some c=>(c,s.places,0)
 else ([],[],1)
end Go.Proofs.YtkolmklfgbimoaaGreatDoor
namespace Go.Proofs.YtkolmklfgbimoaaGreatDoor
open Go Go.Sx Go.Sx.Chunk
theorem putCells_take (l:List Int) (cur:Array Value) (k:Nat) (hk:k≤l.length) (hc:l.length≤cur.size):(Go.Sort.putCells (Value.int .i64) 0 l.toArray cur).toList.take k=i64C (l.take k):=by
 unfold Go.Sort.putCells i64C;apply List.ext_getElem
 ·simp;omega
 ·intro i h1 h2;simp only [List.length_map,List.length_take] at h2;have h3:i<l.length:=by omega
  simp only [List.getElem_take,Array.getElem_toList,Array.getElem_mapIdx,List.getElem_map];rw [if_pos ⟨Nat.zero_le _,by simpa using h3⟩];simp [h3]
theorem fnc_put {P:Program} {f:FuncId} {args:List Value} {g cap k:Nat} {t:TypeId} {l l2:List Int} {v:Value} (hc:Called P f) (hlen:l2.length=l.length) (hk:k≤l.length)
  (h:∀ w,Go.Sort.Holds (Value.int .i64) w g 0 l.toArray→g<w.heap.size→l.length≤cap→Calls P f args.toArray w fun e w'=>e = .returned v∧∃ q os,w'=Go.Sort.grow (Go.Sort.putRow (Value.int .i64) (Go.Sort.ahead w q) g 0 l2.toArray) os) :
  FnC (α:=Unit) P f args [row (some ⟨g,0,none⟩) cap t 1 l.length (i64C l)] [] (fun _=>v) (fun _=>[row (some ⟨g,0,none⟩) cap t 1 k (i64C (l2.take k))]) (fun _=>True):=by
 refine ⟨hc,fun w hw=>?_⟩;obtain ⟨⟨hx,hn⟩,hdom,_,_⟩:=hw.sep;rcases hn with ⟨hn,_⟩ | ⟨g2,cap2,cur,hs,_,hg,hle,hmx,hsz,htk⟩
 ·cases hn
 simp only [Value.slice.injEq,Option.some.injEq,Addr.mk.injEq,true_and,and_true] at hs;obtain ⟨rfl,rfl⟩:=hs;rw [Nat.mul_one] at hsz htk;have hlt:g<w.heap.size:=(hdom g rfl).1
 have hH:Go.Sort.Holds (Value.int .i64) w g 0 l.toArray:=by
  intro j hj;have hj':j<l.length:=by simpa using hj
  have h1:cur.toList[j]? = some (Value.int .i64 l[j]):=by
   have h2:(cur.toList.take l.length)[j]? = (i64C l)[j]? := by rw [htk]
   rw [List.getElem?_take,if_pos hj'] at h2;rw [h2];unfold i64C;simp [hj']
  constructor
  ·simp only [World.cell?,hg,Nat.zero_add];simp only [Option.isSome_none,Bool.false_eq_true,if_false];rw [← Array.getElem?_toList,h1];simp [hj']
  ·simp only [World.frozen?,hg];simp
 refine (h w hH hlt (by omega)).mono fun e w' ⟨he,q,os,hw'⟩=>⟨(),he,?_,trivial⟩
 subst hw'
 have hgrow:∀ k,k<w.heap.size→(Go.Sort.grow (Go.Sort.putRow (Value.int .i64) (Go.Sort.ahead w q) g 0 l2.toArray) os).heap[k]? = (w.heap.modify g (Go.Sort.onCells (Go.Sort.putCells (Value.int .i64) 0 l2.toArray)))[k]? := fun k hk=>
  Array.getElem?_append_left (by show k<(w.heap.modify g _).size;simpa using hk)
 refine ⟨⟨rfl,rfl,rfl,?_,fun k hk ho=>?_⟩,?_⟩
 ·show w.heap.size≤(w.heap.modify g _++os).size
  simp
 ·rw [hgrow k hk,Array.getElem?_modify];rw [if_neg (fun he=>ho (by subst he;exact .inl ⟨rfl,rfl⟩))]
 ·refine ⟨⟨by simp [i64C];omega,.inr ⟨g,cap,Go.Sort.putCells (Value.int .i64) 0 l2.toArray cur,rfl,Nat.zero_le _,?_,by omega,hmx,by simp [Go.Sort.putCells,hsz],?_⟩⟩,?_,fun d hd=>by (cases hd),trivial⟩
  ·rw [hgrow g hlt,Array.getElem?_modify,if_pos rfl,hg];rfl
  ·rw [Nat.mul_one];exact putCells_take l2 cur k (by omega) (by omega)
  ·intro k hk;have hk':(Value.slice (some ⟨g,0,none⟩) k cap).ownBlock=some k:=hk;simp only [Value.ownBlock,Option.some.injEq] at hk';subst hk';refine ⟨?_,fun _=>.inl (.inl ⟨rfl,rfl⟩)⟩;show g<(w.heap.modify g _++os).size
   simp;omega
theorem systemEC (n:Int):FnC Tryz.prog 232 [.int .i64 n] [] [] (fun z:Option Addr×Nat=>.tuple #[.slice z.1 (sysF n).1.length z.2,.int .i64 (sysF n).2]) (fun z=>[row z.1 z.2 3 1 (sysF n).1.length (i64C (sysF n).1)]) (fun _=>True):=by
 by_cases h1:n=1
 ·subst h1;refine fn_intro Tryz.func232 Tryz.ntmps232 rfl rfl rfl (fun w0=>?_);refine rrs ?_;exact en (none,0) trivial
 ·by_cases h2:n=2
  ·subst h2;refine fn_intro Tryz.func232 Tryz.ntmps232 rfl rfl rfl (fun w0=>?_);refine rrs ?_;intro b1 _;refine rr ?_;refine wd_rowB (m:=1) (sz:=1) ?_ rfl (by unfold maxLen;omega);exact en (some ⟨b1,0,none⟩,1) trivial
  ·have e:sysF n=([],0):=by unfold sysF;rw [if_neg h1,if_neg h2]
   rw [e];refine fn_intro Tryz.func232 Tryz.ntmps232 rfl rfl rfl (fun w0=>?_);refine rrs ?_;exact en (none,0) trivial
theorem fieldsF_len (i:In):(fieldsF i).1.length≤2:=by
 unfold fieldsF sysF
 repeat' split
 all_goals simp
theorem fieldsEC (i:In):FnC Tryz.prog 200 [inG i] [] [] (fun z:Option Addr×Nat=>.tuple #[.slice z.1 (fieldsF i).1.length z.2,.int .i64 (fieldsF i).2]) (fun z=>[row z.1 z.2 3 1 (fieldsF i).1.length (i64C (fieldsF i).1)]) (fun _=>True):=by
 obtain ⟨op,a,b,c,imm⟩:=i;by_cases h:op<0∨20<op
 ·have e:fieldsF ⟨op,a,b,c,imm⟩=([],0):=by
   unfold fieldsF;dsimp only
   repeat rw [if_neg (by omega)]
  rw [e];unfold inG;refine fn_intro Tryz.func200 Tryz.ntmps200 rfl rfl rfl (fun w0=>?_);refine rrs ?_;intro b1 _;refine rr ?_;exact en (none,0) trivial
 have hop:(op=1∨op=2∨op=3∨op=4∨op=5∨op=6∨op=7∨op=8∨op=9)∨(op=10∨op=12)∨(op=11)∨(op=13∨op=15∨op=16)∨(op=14∨op=19)∨(op=18)∨(op=20)∨(op=0∨op=17):=by omega
 rcases hop with q | q | q | q | q | q | q | q
 ·rcases q with rfl | rfl | rfl | rfl | rfl | rfl | rfl | rfl | rfl
  all_goals
   unfold inG;refine fn_intro Tryz.func200 Tryz.ntmps200 rfl rfl rfl (fun w0=>?_);refine rrs ?_;intro b1 _;refine rr ?_;refine dr [0,1,2,3,5,6,4,7,8] [1,3,6] [0] ?_;refine rr ?_;intro b2 _;refine rr ?_;refine wd_rowB (m:=2) (sz:=1) ?_ rfl (by unfold maxLen;omega);exact en (some ⟨b2,0,none⟩,2) trivial
 ·rcases q with rfl | rfl
  all_goals
   unfold inG;refine fn_intro Tryz.func200 Tryz.ntmps200 rfl rfl rfl (fun w0=>?_);refine rrs ?_;intro b1 _;refine rr ?_;refine dr [0,1,3,4,2,5,6] [1,4] [0] ?_;refine rr ?_;intro b2 _;refine rr ?_;refine wd_rowB (m:=1) (sz:=1) ?_ rfl (by unfold maxLen;omega);exact en (some ⟨b2,0,none⟩,1) trivial
 ·subst q;unfold inG;refine fn_intro Tryz.func200 Tryz.ntmps200 rfl rfl rfl (fun w0=>?_);refine rrs ?_;intro b1 _;refine rr ?_;refine dr [0,1,2,3] [1] [0] ?_;refine rr ?_;exact en (none,0) trivial
 ·rcases q with rfl | rfl | rfl
  all_goals
   unfold inG;refine fn_intro Tryz.func200 Tryz.ntmps200 rfl rfl rfl (fun w0=>?_);refine rrs ?_;intro b1 _;refine rr ?_;intro b2 _;refine rr ?_;refine wd_rowB (m:=2) (sz:=1) ?_ rfl (by unfold maxLen;omega);exact en (some ⟨b2,0,none⟩,2) trivial
 ·rcases q with rfl | rfl
  all_goals
   unfold inG;refine fn_intro Tryz.func200 Tryz.ntmps200 rfl rfl rfl (fun w0=>?_);refine rrs ?_;intro b1 _;refine rr ?_;intro b2 _;refine rr ?_;refine wd_rowB (m:=1) (sz:=1) ?_ rfl (by unfold maxLen;omega);exact en (some ⟨b2,0,none⟩,1) trivial
 ·subst q;unfold inG;refine fn_intro Tryz.func200 Tryz.ntmps200 rfl rfl rfl (fun w0=>?_);refine rrs ?_;intro b1 _;refine rr ?_;exact en (none,0) trivial
 ·subst q;unfold inG;refine fn_intro Tryz.func200 Tryz.ntmps200 rfl rfl rfl (fun w0=>?_);refine rrs ?_;intro b1 _;refine rr ?_;refine cl (systemEC imm) ?_;intro z _;refine rrs ?_;exact en z trivial
 ·rcases q with rfl | rfl
  all_goals
   unfold inG;refine fn_intro Tryz.func200 Tryz.ntmps200 rfl rfl rfl (fun w0=>?_);refine rrs ?_;intro b1 _;refine rr ?_;exact en (none,0) trivial
theorem goesEC (i:In):FnC (α:=Unit) Tryz.prog 136 [inG i] [] [] (fun _=>.bool (goesF i)) (fun _=>[]) (fun _=>True):=by
 have hr:=rightIC i;unfold goesF;generalize goodI i=g at *;obtain ⟨op,a,b,c,imm⟩:=i;unfold inG at *;dsimp only;by_cases h:15≤op∧op≤19
 ·rw [decide_eq_true h,Bool.true_and];have:op=15∨op=16∨op=17∨op=18∨op=19:=by omega
  rcases this with rfl | rfl | rfl | rfl | rfl
  all_goals
   refine fn_intro Tryz.func136 Tryz.ntmps136 rfl rfl rfl (fun w0=>?_);refine rrs ?_;intro b1 _;refine rr ?_;refine cl (hr) ?_;intro _ _;refine rrs ?_;exact en () trivial
 ·rw [decide_eq_false h,Bool.false_and];refine fn_intro Tryz.func136 Tryz.ntmps136 rfl rfl rfl (fun w0=>?_);refine rrs ?_;intro b1 _;refine rr ?_;exact en () trivial
theorem actsEC (i:In):FnC (α:=Unit) Tryz.prog 196 [inG i] [] [] (fun _=>.bool (actsF i)) (fun _=>[]) (fun _=>True):=by
 have hr:=rightIC i;unfold actsF;generalize goodI i=g at *;obtain ⟨op,a,b,c,imm⟩:=i;unfold inG at *;dsimp only;by_cases h:op=4∨op=5∨op=12∨op=13∨op=14∨op=20
 ·rw [decide_eq_true h,Bool.true_and];rcases h with rfl | rfl | rfl | rfl | rfl | rfl
  all_goals
   refine fn_intro Tryz.func196 Tryz.ntmps196 rfl rfl rfl (fun w0=>?_);refine rrs ?_;intro b1 _;refine rr ?_;refine cl (hr) ?_;intro _ _;refine rrs ?_;exact en () trivial
 ·rw [decide_eq_false h,Bool.false_and];refine fn_intro Tryz.func196 Tryz.ntmps196 rfl rfl rfl (fun w0=>?_);refine rrs ?_;intro b1 _;refine rr ?_;exact en () trivial
theorem lateEC (i:In):FnC (α:=Unit) Tryz.prog 138 [inG i] [] [] (fun _=>.bool (lateF i)) (fun _=>[]) (fun _=>True):=by
 have hr:=rightIC i;unfold lateF;generalize goodI i=g at *;obtain ⟨op,a,b,c,imm⟩:=i;unfold inG at *;dsimp only;cases g with
 | false=>
  refine fn_intro Tryz.func138 Tryz.ntmps138 rfl rfl rfl (fun w0=>?_);refine rrs ?_;intro b1 _;refine rr ?_;refine cl (hr) ?_;intro _ _;refine rrs ?_;exact en () trivial
 | true=>
  rw [Bool.true_and];by_cases h:op=12
  ·rw [decide_eq_true h,Bool.true_or];refine fn_intro Tryz.func138 Tryz.ntmps138 rfl rfl rfl (fun w0=>?_);refine rrs ?_;intro b1 _;refine rr ?_;refine cl (hr) ?_;intro _ _;refine rrs ?_;exact en () trivial
  ·rw [decide_eq_false h,Bool.false_or];by_cases h2:op=20
   ·rw [decide_eq_true h2,Bool.true_and];refine fn_intro Tryz.func138 Tryz.ntmps138 rfl rfl rfl (fun w0=>?_);refine rrs ?_;intro b1 _;refine rr ?_;refine cl (hr) ?_;intro _ _;refine rrs ?_;exact en () trivial
   ·rw [decide_eq_false h2,Bool.false_and];refine fn_intro Tryz.func138 Tryz.ntmps138 rfl rfl rfl (fun w0=>?_);refine rrs ?_;intro b1 _;refine rr ?_;refine cl (hr) ?_;intro _ _;refine rrs ?_;exact en () trivial
theorem writesEC (i:In):FnC (α:=Unit) Tryz.prog 148 [inG i] [] [] (fun _=>.int .i64 (writesF i)) (fun _=>[]) (fun _=>True):=by
 have hr:=rightIC i;have hf:=fieldsEC i;unfold writesF;generalize goodI i=g at *;cases g with
 | false=>
  rw [if_neg (by simp)];unfold inG at *;refine fn_intro Tryz.func148 Tryz.ntmps148 rfl rfl rfl (fun w0=>?_);refine rrs ?_;intro b1 _;refine rr ?_;refine cl (hr) ?_;intro _ _;refine rrs ?_;exact en () trivial
 | true=>
  rw [if_pos rfl];unfold inG at *;refine fn_intro Tryz.func148 Tryz.ntmps148 rfl rfl rfl (fun w0=>?_);refine rrs ?_;intro b1 _;refine rr ?_;refine cl (hr) ?_;intro _ _;refine rrs ?_;refine cl (hf) ?_;intro z _;refine rrs ?_;exact en () trivial
theorem indexNIC (a:Option Addr) (c:Nat) (l:List Int) (x:Int) (hl:l.length≤1000000000000):FnC Tryz.prog 201 [.slice a l.length c,.int .i64 x] [] [rng a (i64C l)] (fun v:Int=>.int .i64 v) (fun _=>[]) (fun v=>decide (0≤v)=l.contains x):=by
 have hlen:=i64C_len l;refine fn_intro Tryz.func201 Tryz.ntmps201 rfl rfl rfl (fun w0=>?_);refine rrs ?_;refine lo [0,1,7] (fun k:Nat=>[(8,.int .i64 (k:Int))]) (fun k=>[]) (fun k=>k≤l.length∧(l.take k).contains x=false) (fun k=>l.length-k) 0 ⟨Nat.zero_le _,by simp⟩ ?_;rintro k ⟨hk,hany⟩ K1 hK1;try dsimp only at hk hany ⊢
 by_cases hlt:k<l.length
 ·obtain ⟨v,hvk⟩:=some_at hlt;have hget:(i64C l)[(k:Int).toNat*1]? = some (.int .i64 v):=by rw [show (k:Int).toNat*1=k by omega];exact i64C_get hvk
  refine w_use (fun w hw=>(hw.pick 0 rfl).rng_some (by omega)) ?_;rintro ⟨g1,rfl⟩;by_cases hx:x=v
  ·subst hx;refine rr ?_;refine en (k:Int) ?_;rw [List.contains_iff_mem.2 (List.mem_of_getElem? hvk)];simp
  ·skip
   refine rr ?_;refine ro hK1 (k+1) ⟨by omega,?_⟩;rw [List.take_add_one,hvk];simp only [Option.toList_some,List.contains_eq_mem,List.mem_append,List.mem_singleton,decide_eq_false_iff_not,not_or] at hany ⊢;exact ⟨hany,hx⟩
 ·obtain rfl:k=l.length:=by omega
  rw [List.take_length] at hany;refine rr ?_;refine en (-1) ?_;rw [hany];rfl
theorem containsNIC (a:Option Addr) (c:Nat) (l:List Int) (x:Int) (hl:l.length≤1000000000000):FnC (α:=Unit) Tryz.prog 149 [.slice a l.length c,.int .i64 x] [] [rng a (i64C l)] (fun _=>.bool (l.contains x)) (fun _=>[]) (fun _=>True):=by
 have h:=indexNIC a c l x hl;refine fn_intro Tryz.func149 Tryz.ntmps149 rfl rfl rfl (fun w0=>?_);refine rrs ?_;refine cl (h) ?_;intro v hv;try simp only [Sx.ap1,Sx.ap2,Sx.ap3]
 rw [← hv];refine rr ?_;exact en () trivial
theorem fnc_rows {α:Type} {P:Program} {f:FuncId} {args:List Value} {a:Option Addr} {c e sz n:Nat} {xs:List Value} {A B:List Chunk} {val:α→Value} {out:α→List Chunk} {Φ:α→Prop} (hc:Called P f)
  (h1:∀ g,a=some ⟨g,0,none⟩→FnC P f args (row a c e sz n xs::A) B val out Φ) (h2:a=none→c=0→n=0→FnC P f args (row a c e sz n xs::A) B val out Φ):FnC P f args (row a c e sz n xs::A) B val out Φ:=by
 refine ⟨hc,fun w hw=>?_⟩;have hown:w.ownsRow 0 e sz (.slice a n c) n xs:=hw.sep.1;rcases hown.2 with ⟨hn,h0⟩ | ⟨g2,cap2,cur,hs,_⟩
 ·simp only [Value.slice.injEq] at hn;exact (h2 hn.1 hn.2.2 h0).run w hw
 ·simp only [Value.slice.injEq] at hs;exact (h1 g2 hs.1).run w hw
theorem sortIC (a:Option Addr) (c:Nat) (l:List Int) (hl:l.length≤1000000000000):FnC (α:=Unit) Tryz.prog 189 [.slice a l.length c] [row a c 3 1 l.length (i64C l)] [] (fun _=>.tuple #[]) (fun _=>[row a c 3 1 l.length (i64C (l.mergeSort fun x y=>decide (x≤y)))]) (fun _=>True):=by
 have hms:(l.mergeSort fun x y=>decide (x≤y)).length=l.length:=List.length_mergeSort l;have hcl:Called Tryz.prog 189:=⟨_,_,Tryz.func189,rfl,by kernel_rfl⟩
 refine fnc_rows hcl (fun g hg=>?_) (fun ha hc0 hn=>?_)
 ·subst hg;have h:=fnc_put (P:=Tryz.prog) (f:=189) (args:=[.slice (some ⟨g,0,none⟩) l.length c]) (g:=g) (cap:=c) (k:=l.length) (t:=3) (l:=l) (l2:=l.mergeSort fun x y=>decide (x≤y)) (v:=.tuple #[]) hcl hms (Nat.le_refl _) (fun w hH hlt _=>_root_.Go.Proofs.Tryz.slices_Sort_int g 0 c l w hH hlt (by omega));rw [show (l.mergeSort fun x y=>decide (x≤y)).take l.length=l.mergeSort fun x y=>decide (x≤y) from List.take_of_length_le (by rw [hms];exact Nat.le_refl _)] at h;exact h
 ·subst ha;subst hc0;obtain rfl:l=[]:=List.eq_nil_of_length_eq_zero hn;refine ⟨hcl,fun w hw=>(_root_.Go.Proofs.Tryz.slices_Sort_int_none none 0 w).mono fun e w' ⟨he,hw'⟩=>⟨(),he,?_,trivial⟩⟩;subst hw'
  simpa using hw
theorem compactIC (a:Option Addr) (c:Nat) (l:List Int) (hl:l.length≤1000000000000):FnC (α:=Unit) Tryz.prog 203 [.slice a l.length c] [row a c 3 1 l.length (i64C l)] [] (fun _=>.slice a (Lib.compact l).length c) (fun _=>[row a c 3 1 (Lib.compact l).length (i64C (Lib.compact l))]) (fun _=>True):=by
 have hms:=Lib.compact_length_le l;have hcl:Called Tryz.prog 203:=⟨_,_,Tryz.func203,rfl,by kernel_rfl⟩
 refine fnc_rows hcl (fun g hg=>?_) (fun ha hc0 hn=>?_)
 ·subst hg;have h:=fnc_put (P:=Tryz.prog) (f:=203) (args:=[.slice (some ⟨g,0,none⟩) l.length c]) (g:=g) (cap:=c) (k:=(Lib.compact l).length) (t:=3) (l:=l) (l2:=Lib.compact l++List.replicate (l.length-(Lib.compact l).length) 0) (v:=.slice (some ⟨g,0,none⟩) (Lib.compact l).length c) hcl (by simp;omega) hms (fun w hH hlt hcap=>(_root_.Go.Proofs.Tryz.slices_Compact_int g 0 c l w hH (by omega) hcap).mono fun e w' ⟨he,q,hw'⟩=>⟨he,q,#[],by rw [hw'];simp⟩);rw [List.take_left] at h;exact h
 ·subst ha;subst hc0;obtain rfl:l=[]:=List.eq_nil_of_length_eq_zero hn;refine ⟨hcl,fun w hw=>(_root_.Go.Proofs.Tryz.slices_Compact_int_empty none 0 w).mono fun e w' ⟨he,hw'⟩=>⟨(),he,?_,trivial⟩⟩;subst hw';rw [show Lib.compact ([]:List Int)=[] from rfl]
  simpa using hw
section
set_option maxRecDepth 512
def boxS (x b:Nat):Chunk:=blk x [.pointer (some ⟨b,0,none⟩)] 263
theorem allSC (b:Nat):FnC Tryz.prog 187 [.pointer (some ⟨b,0,none⟩)] [] [] (fun (x:Nat)=>.func (.func 226) #[] #[.pointer (some ⟨x,0,none⟩)]) (fun x=>[boxS x b]) (fun _=>True):=by
 unfold boxS;refine fn_intro Tryz.func187 Tryz.ntmps187 rfl rfl rfl (fun w0=>?_);refine rrs ?_;intro x _;refine rr ?_;exact en x trivial
set_option maxRecDepth 100000 in
theorem allIC {σ τ:Type} (ly x b:Nat) (m:Option Nat) (oa:Option Addr) (oc:Nat) (l:List Int) (hl:l.length≤1000000000000) (Hb:σ→List Chunk) (Hx:τ→List Chunk) (φ:List Int→σ→Prop) (ψ:τ→Prop) (s0:σ)
  (hy:∀ pre e rest q,l=pre++e::rest→φ pre q→YdC Tryz.prog ly [.int .i64 e] (Hb q) (fun z:σ ⊕ τ=>.bool z.isLeft) (Sum.elim Hb Hx) (Sum.elim (φ (pre++[e])) ψ))
  (hbw:∀ q,allW (Hb q)=true) (hxw:∀ t,allW (Hx t)=true) (h0:φ [] s0) :
  FnC Tryz.prog 226 [.func (.yield ly) #[] #[],.pointer (some ⟨x,0,none⟩)] ((boxS x b::setI b m oa oc l)++Hb s0) [] (fun _:σ ⊕ τ=>.tuple #[])
   (Sum.elim (fun q=>(boxS x b::setI b m oa oc l)++Hb q) (fun t=>(boxS x b::setI b m oa oc l)++Hx t)) (Sum.elim (φ l) ψ):=by
 have hil:=i64C_len l;unfold boxS setI at *;generalize mapI m l=mp at *;refine fn_intro Tryz.func226 Tryz.ntmps226 rfl rfl rfl (fun w0=>?_);try simp only [Sx.ap1,Sx.ap2,Sx.ap3]
 try simp only [List.cons_append,List.nil_append]
 refine rr ?_
 refine w_loop (α:=Nat×σ) (fun z=>[(0,.func (.yield ly) #[] #[]),(8,.slice oa l.length oc),(9,.int .i64 (l.length:Int)),(10,.int .i64 (z.1:Int))])
  (fun z=>[_,_,_,_]++Hb z.2)
  (fun z=>z.1≤l.length∧φ (l.take z.1) z.2) (fun z=>l.length-z.1) (0,s0) ⟨rfl,rfl,rfl,rfl,trivial⟩ rfl ⟨Nat.zero_le _,h0⟩ ?_
 rintro ⟨k,q⟩ ⟨hk,hs⟩ K1 hK1;dsimp only at hk hs ⊢;simp only [List.cons_append,List.nil_append];by_cases hlt:k<l.length
 ·obtain ⟨e,he⟩:=some_at hlt
  have hsplit:l=l.take k++e::l.drop (k+1):=by
   obtain ⟨hi,hb⟩:=List.getElem?_eq_some_iff.1 he;rw [← hb,← List.drop_eq_getElem_cons hi,List.take_append_drop]
  have hyd:=hy _ e _ q hsplit hs;refine w_use (fun w hw=>(hw.pick 2 rfl).row_some (by omega)) ?_;rintro ⟨g1,rfl⟩;have hget:(i64C l)[0+(k:Int).toNat*1]? = some (.int .i64 e):=by rw [show 0+(k:Int).toNat*1=k by omega];exact i64C_get he
  refine rn ?_;refine w_region rfl ?_;refine rn ?_;refine w_region rfl ?_;refine rn ?_;refine w_regionYn 2 rfl rfl ?_;refine rr ?_;refine w_yieldT (R:=[_,_,_,_]) hyd rfl rfl rfl ?_ rfl rfl ?_
  ·intro z;cases z with
   | inl s=>exact hbw s
   | inr t=>exact hxw t
  intro z hz;cases z with
  | inl s'=>
   simp only [Sum.elim_inl,Sum.isLeft_inl] at hz ⊢;refine rr ?_;refine w_round hK1 (k+1,s') ⟨by show k+1≤l.length;omega,?_⟩ (by show l.length-(k+1)<l.length-k;omega) ?_ ⟨rfl,rfl,rfl,rfl,trivial⟩
   ·show φ (l.take (k+1)) s'
    rw [List.take_add_one,he];exact hz
   ·rfl
  | inr t'=>
   simp only [Sum.elim_inr,Sum.isLeft_inr] at hz ⊢;refine rr ?_;exact weE (.inr t') hz
 ·obtain rfl:k=l.length:=by omega
  rw [List.take_length] at hs;refine rr ?_;exact weE (.inl q) hs
end
theorem zeroFC (n:Int):FnC (α:=Unit) Tryz.prog 202 [.int .i64 n] [] [] (fun _=>.bool (decide (n=0))) (fun _=>[]) (fun _=>True):=by
 refine fn_intro Tryz.func202 Tryz.ntmps202 rfl rfl rfl (fun w0=>?_);refine rrs ?_;exact en () trivial
theorem indexZC (a:Option Addr) (c:Nat) (l:List Int) (hl:l.length≤1000000000000):FnC Tryz.prog 224 [.slice a l.length c,.func (.func 202) #[] #[]] [] [rng a (i64C l)] (fun v:Int=>.int .i64 v) (fun _=>[]) (fun v=>(v = -1∧∀ z∈l,z≠0)∨∃ k:Nat,v=(k:Int)∧k<l.length∧l[k]? = some 0∧∀ z∈l.take k,z≠0):=by
 have hlen:=i64C_len l;refine fn_intro Tryz.func224 Tryz.ntmps224 rfl rfl rfl (fun w0=>?_);refine rrs ?_;refine lo [0,1,7] (fun k:Nat=>[(8,.int .i64 (k:Int))]) (fun k=>[]) (fun k=>k≤l.length∧∀ z∈l.take k,z≠0) (fun k=>l.length-k) 0 ⟨Nat.zero_le _,by simp⟩ ?_;rintro k ⟨hk,hany⟩ K1 hK1;try dsimp only at hk hany ⊢
 by_cases hlt:k<l.length
 ·obtain ⟨v,hvk⟩:=some_at hlt;have hget:(i64C l)[(k:Int).toNat*1]? = some (.int .i64 v):=by rw [show (k:Int).toNat*1=k by omega];exact i64C_get hvk
  refine w_use (fun w hw=>(hw.pick 0 rfl).rng_some (by omega)) ?_;rintro ⟨g1,rfl⟩;refine rr ?_;refine clv (zeroFC v) ?_;intro _ _;try simp only [Sx.ap1,Sx.ap2,Sx.ap3]
  by_cases hx:v=0
  ·rw [decide_eq_true hx];refine rr ?_;exact en (k:Int) (.inr ⟨k,rfl,hlt,by rw [hvk,hx],hany⟩)
  ·rw [decide_eq_false hx];refine rr ?_;refine ro hK1 (k+1) ⟨by omega,?_⟩;rw [List.take_add_one,hvk];intro z hz;simp only [Option.toList_some,List.mem_append,List.mem_singleton] at hz;rcases hz with hz | rfl
   ·exact hany z hz
   ·exact hx
 ·obtain rfl:k=l.length:=by omega
  rw [List.take_length] at hany;refine rr ?_;exact en (-1) (.inl ⟨rfl,hany⟩)
def nzF (l:List Int):List Int:=l.filter fun n=>decide (n≠0)
theorem nzF_all {l:List Int} (h:∀ z∈l,z≠0):nzF l=l:=List.filter_eq_self.2 (fun z hz=>by simpa using h z hz)
theorem nzF_snoc {l:List Int} {k:Nat} {v:Int} (h:l[k]? = some v):nzF (l.take (k+1))=nzF (l.take k)++(if v=0 then [] else [v]):=by
 unfold nzF;rw [List.take_add_one,h,List.filter_append];by_cases hv:v=0
 ·simp [hv]
 ·simp [hv]
structure DelI (l:List Int) (x:Nat×Nat×List Int):Prop where
 len:x.2.2.length=l.length
 lt:x.1<x.2.1
 le:x.2.1≤l.length
 pre:x.2.2.take x.1=nzF (l.take x.2.1)
 post:x.2.2.drop x.2.1=l.drop x.2.1
theorem DelI.at {l:List Int} {x:Nat×Nat×List Int} (h:DelI l x) {v:Int} (hv:l[x.2.1]? = some v):x.2.2[x.2.1]? = some v:=by
 have h1:(x.2.2.drop x.2.1)[0]? = (l.drop x.2.1)[0]? := by rw [h.post]
 rw [List.getElem?_drop,List.getElem?_drop,Nat.add_zero] at h1;rw [h1];exact hv
theorem DelI.drop {l:List Int} {i j:Nat} {xs:List Int} (h:DelI l (i,j,xs)) (hj:l[j]? = some 0) (hlt:j<l.length):DelI l (i,j+1,xs):=
 ⟨h.len,by have:=h.lt;dsimp only at this ⊢;omega,hlt,by
  have:=h.pre;dsimp only at this ⊢;rw [nzF_snoc hj,if_pos rfl,List.append_nil];exact this,by
  have:=h.post;dsimp only at this ⊢;rw [← List.drop_drop,this,List.drop_drop]⟩
theorem DelI.keep {l:List Int} {i j:Nat} {xs:List Int} {v:Int} (h:DelI l (i,j,xs)) (hj:l[j]? = some v) (hv:v≠0) (hlt:j<l.length):DelI l (i+1,j+1,xs.set i v):=by
 obtain ⟨h1,h2,h3,h4,h5⟩:=h;dsimp only at h1 h2 h3 h4 h5;refine ⟨by simpa using h1,by dsimp only;omega,hlt,?_,?_⟩
 ·dsimp only;rw [nzF_snoc hj,if_neg hv,← h4,List.take_add_one,List.take_set_of_le (Nat.le_refl _),List.getElem?_set_self (by omega)];rfl
 ·dsimp only;rw [List.drop_set_of_lt (by omega),← List.drop_drop,h5,List.drop_drop]
theorem deleteZC (a:Option Addr) (c:Nat) (l:List Int) (hl:l.length≤1000000000):FnC (α:=Unit) Tryz.prog 185 [.slice a l.length c,.func (.func 202) #[] #[]] [row a c 3 1 l.length (i64C l)] [] (fun _=>.slice a (nzF l).length c) (fun _=>[row a c 3 1 (nzF l).length (i64C (nzF l))]) (fun _=>True):=by
 have h:=indexZC a c l (by omega);refine fn_intro Tryz.func185 Tryz.ntmps185 rfl rfl rfl (fun w0=>?_);refine rrs ?_;refine cl (h) ?_;intro v hv;try simp only [Sx.ap1,Sx.ap2,Sx.ap3]
 rcases hv with ⟨rfl,hv⟩ | ⟨k,rfl,hk,hk0,hv⟩
 ·rw [nzF_all hv];refine rr ?_;exact en () trivial
 refine w_use (fun w hw=>(hw.pick 0 rfl).row_cap) fun hcap=>?_
 refine w_use (fun w hw=>(hw.pick 0 rfl).row_some (by omega)) ?_;rintro ⟨g,rfl⟩;refine rr ?_;refine lo [0,1] (fun x:Nat×Nat×List Int=>[(5,.int .i64 (x.1:Int)),(6,.int .i64 (x.2.1:Int))]) (fun x=>[(0,row (some ⟨g,0,none⟩) c 3 1 l.length (i64C x.2.2))]) (fun x=>DelI l x) (fun x=>l.length-x.2.1) (k,k+1,l) ⟨rfl,Nat.lt_succ_self k,hk,by rw [nzF_snoc hk0,if_pos rfl,List.append_nil,nzF_all hv],rfl⟩ ?_;rintro ⟨i,j,xs⟩ hx K1 hK1;have hx1:=hx.len;have hx2:=hx.lt;have hx3:=hx.le;dsimp only at hx1 hx2 hx3 ⊢;have hxl:=i64C_len xs;by_cases hlt:j<l.length
 ·obtain ⟨v,hvj⟩:=some_at hlt;have hvx:=hx.at hvj;dsimp only at hvx;have hget:(i64C xs)[0+(j:Int).toNat*1]? = some (.int .i64 v):=by rw [show 0+(j:Int).toNat*1=j by omega];exact i64C_get hvx
  refine rr ?_;refine clv (zeroFC v) ?_;intro _ _;try simp only [Sx.ap1,Sx.ap2,Sx.ap3]
  by_cases hv0:v=0
  ·rw [decide_eq_true hv0];subst hv0;refine rr ?_;exact ro hK1 (i,j+1,xs) (hx.drop hvj hlt)
  ·rw [decide_eq_false hv0];refine rr ?_;rw [show 0+(i:Int).toNat*1=i by omega,i64C_set];exact ro hK1 (i+1,j+1,xs.set i v) (hx.keep hvj hv0 hlt)
 ·obtain rfl:j=l.length:=by omega
  have hpre:=hx.pre;dsimp only at hpre;rw [List.take_length] at hpre;have hnl:(nzF l).length=i:=by rw [← hpre,List.length_take];omega
  refine rr ?_
  have hsl:sliceV (some ⟨g,0,none⟩) c 1 (((some (i:Int)).getD 0).toNat) (((none:Option Int).getD (l.length:Int)).toNat) = .slice (some ⟨g,i,none⟩) (l.length-i) (c-i):=by
   unfold sliceV;simp only [Option.getD_some,Option.getD_none,Int.toNat_natCast,Nat.mul_one]
   first | rfl | (rw [if_neg (by omega)];simp [Addr.add];omega) | simp [Addr.add]
  refine w_eff (eff_clear (i:=0) (zv:=.int .i64 0) (k:=l.length-i) (o:=i) (c:=c-i) T (congrArg some hsl) rfl rfl rfl rfl rfl (by omega)) (fun _ _=>?_)
  have hce:List.take (i*1) (List.take i (i64C xs)++List.replicate (l.length-i) (Value.int .i64 0)++List.drop (i+(l.length-i)) (i64C xs))=i64C (nzF l):=by
   rw [Nat.mul_one,List.append_assoc,List.take_left' (by rw [List.length_take,hxl];omega),← hpre,← i64C_take,Nat.mul_one]
  refine w_turn (fun w hw=>by have:=hw.row_shrink (m:=i) (by omega);rw [hce] at this;exact this) ?_;rw [hnl];refine rr ?_;exact en () trivial
def rdL (i:In):List Int:=if goodI i then Lib.compact ((nzF (fieldsF i).1).mergeSort fun x y=>decide (x≤y)) else []
theorem rdL_len (i:In):(rdL i).length≤2:=by
 unfold rdL;split
 ·have h1:=Lib.compact_length_le ((nzF (fieldsF i).1).mergeSort fun x y=>decide (x≤y));rw [List.length_mergeSort] at h1;have h2:(nzF (fieldsF i).1).length≤(fieldsF i).1.length:=List.length_filter_le _ _;have h3:=fieldsF_len i;omega
 ·simp
theorem readsEC (i:In):FnC Tryz.prog 150 [inG i] [] [] (fun z:Option Addr×Nat=>.slice z.1 (rdL i).length z.2) (fun z=>[row z.1 z.2 3 1 (rdL i).length (i64C (rdL i))]) (fun _=>True):=by
 have hr:=rightIC i;have hf:=fieldsEC i;have hfl:=fieldsF_len i;unfold rdL;generalize goodI i=g at *;generalize (fieldsF i).2=r at *;generalize (fieldsF i).1=l at *;have hnl:(nzF l).length≤l.length:=List.length_filter_le _ _;have hml:((nzF l).mergeSort fun x y=>decide (x≤y)).length=(nzF l).length:=List.length_mergeSort _;have h1:=fun a c=>deleteZC a c l (by omega)
 have h2:=fun a c=>sortIC a c (nzF l) (by omega)
 have h3:=fun a c=>compactIC a c ((nzF l).mergeSort fun x y=>decide (x≤y)) (by rw [hml];omega)
 rw [hml] at h3;unfold inG at *;cases g with
 | false=>
  rw [if_neg (by simp)];refine fn_intro Tryz.func150 Tryz.ntmps150 rfl rfl rfl (fun w0=>?_);refine rrs ?_;intro b1 _;refine rr ?_;refine cl (hr) ?_;intro _ _;refine rrs ?_;exact en (none,0) trivial
 | true=>
  rw [if_pos rfl];refine fn_intro Tryz.func150 Tryz.ntmps150 rfl rfl rfl (fun w0=>?_);refine rrs ?_;intro b1 _;refine rr ?_;refine cl (hr) ?_;intro _ _;refine rrs ?_;refine cl (hf) ?_;intro z _;refine rrs ?_;refine cl (h1 z.1 z.2) ?_;intro _ _;refine rrs ?_;refine cl (h2 z.1 z.2) ?_;intro _ _;refine rrs ?_;refine cl (h3 z.1 z.2) ?_;intro _ _;refine rrs ?_;exact en z trivial
theorem compact2 (p q:Int):∀ z,z∈Lib.compact [p,q]↔z=p∨z=q:=by
 intro z
 have h:Lib.compact [p,q]=if q=p then [p] else [p,q]:=by
  unfold Lib.compact;rw [show ([p,q]:List Int).length=1+1 from rfl,Lib.compactUpTo_succ,show (1:Nat)=0+1 from rfl,Lib.compactUpTo_succ];by_cases hq:q=p
  ·simp [Lib.compactUpTo,Lib.keeps,hq]
  ·simp [Lib.compactUpTo,Lib.keeps,hq]
 rw [h];split
 ·rename_i h1;subst h1;simp
 ·simp
theorem rdL_mem (i:In) (n:Int) (hn:n≠0):(rdL i).contains n=(goodI i && (fieldsF i).1.contains n):=by
 unfold rdL;cases goodI i with
 | false=>rw [if_neg (by simp)];simp
 | true=>
  rw [if_pos rfl,Bool.true_and];have hfl:=fieldsF_len i;generalize (fieldsF i).1=l at *;have hnl:(nzF l).length≤2:=Nat.le_trans (List.length_filter_le _ _) hfl;have hmem:n∈nzF l↔n∈l:=by unfold nzF;simp [hn]
  generalize nzF l=m at *;have hp:=List.mergeSort_perm m (fun x y=>decide (x≤y));generalize (m.mergeSort fun x y=>decide (x≤y))=s at *;have hs:n∈s↔n∈l:=hp.mem_iff.trans hmem;have hsl:s.length≤2:=by rw [hp.length_eq];exact hnl
  rw [Bool.eq_iff_iff,List.contains_iff_mem,List.contains_iff_mem,← hs]
  match s,hsl with
  | [],_=>exact Iff.rfl
  | [p],_=>exact Iff.rfl
  | [p,q],_=>rw [compact2];simp
theorem readsDC (i:In) (n:Int):FnC (α:=Unit) Tryz.prog 195 [inG i,.int .i64 n] [] [] (fun _=>.bool (readsB i n)) (fun _=>[]) (fun _=>True):=by
 have hr:=readsEC i;have hl:=rdL_len i;have hm:=rdL_mem i n;unfold readsB;rw [inG] at *;by_cases h:n=0
 ·rw [decide_eq_false (show ¬ n≠0 by simpa using h),Bool.false_and];subst h;refine fn_intro Tryz.func195 Tryz.ntmps195 rfl rfl rfl (fun w0=>?_);refine rrs ?_;intro b1 _;refine rr ?_;exact en () trivial
 ·rw [decide_eq_true (show n≠0 from h),Bool.true_and,← hm h];generalize rdL i=l at *;have hc:=fun a c=>containsNIC a c l n (by omega)
  refine fn_intro Tryz.func195 Tryz.ntmps195 rfl rfl rfl (fun w0=>?_);refine rrs ?_;intro b1 _;refine rr ?_;refine cl (hr) ?_;intro z _;refine rrs ?_;refine cl (hc z.1 z.2) ?_;intro _ _;refine rrs ?_;exact en () trivial
theorem farC (a b:In):FnC (α:=Unit) Tryz.prog 139 [inG a,inG b] [] [] (fun _=>.int .i64 (farF a b)) (fun _=>[]) (fun _=>True):=by
 have w1:=writesEC a;have w2:=writesEC b;have r1:=readsDC b (writesF a);have r2:=readsDC a (writesF b);have c1:=lateEC a;have c2:=actsEC a;have c3:=actsEC b;unfold farF;generalize readsB b (writesF a)=p1 at *;generalize readsB a (writesF b)=p2 at *;generalize lateF a=q1 at *;generalize actsF a=q2 at *;generalize actsF b=q3 at *;generalize writesF a=x at *;generalize writesF b=y at *;unfold inG at *;refine fn_intro Tryz.func139 Tryz.ntmps139 rfl rfl rfl (fun w0=>?_);refine rrs ?_;intro b1 _;refine rr ?_;intro b2 _;refine rr ?_;refine dx [0,2,1,3,4,5] [0,2] [] ?_;refine rr ?_;refine cld (w1) ?_;intro _ _;refine rrs ?_;refine cle (w2) ?_;intro _ _;refine rrs ?_;refine cl (r1) ?_;intro _ _;try simp only [Sx.ap1,Sx.ap2,Sx.ap3]
 cases p1 with
 | true=>
  refine rr ?_;refine cl (c1) ?_;intro _ _;try simp only [Sx.ap1,Sx.ap2,Sx.ap3]
  cases q1 with
  | true=>
   refine rr ?_;exact en () trivial
  | false=>
   refine rr ?_;refine cl (r1) ?_;intro _ _;refine rrs ?_;exact en () trivial
 | false=>
  refine rr ?_;refine cl (r1) ?_;intro _ _;try simp only [Sx.ap1,Sx.ap2,Sx.ap3]
  by_cases hx:x=0
  ·have hx2:decide (x≠0)=false:=by simpa using hx
   rw [hx2];refine rr ?_;refine cl (r2) ?_;intro _ _;try simp only [Sx.ap1,Sx.ap2,Sx.ap3]
   cases p2 with
   | true=>
    refine rr ?_;exact en () trivial
   | false=>
    refine rr ?_;refine cl (c2) ?_;intro _ _;try simp only [Sx.ap1,Sx.ap2,Sx.ap3]
    cases q2 with
    | true=>
     refine rr ?_;refine cl (c3) ?_;intro _ _;try simp only [Sx.ap1,Sx.ap2,Sx.ap3]
     cases q3 with
     | true=>
      refine rr ?_;exact en () trivial
     | false=>
      refine rr ?_;exact en () trivial
    | false=>
     refine rr ?_;exact en () trivial
  ·have hx2:decide (x≠0)=true:=by simpa using hx
   rw [hx2];by_cases hy:x=y
   ·rw [decide_eq_true hy];refine rr ?_;exact en () trivial
   ·rw [decide_eq_false hy];refine rr ?_;refine cl (r2) ?_;intro _ _;try simp only [Sx.ap1,Sx.ap2,Sx.ap3]
    cases p2 with
    | true=>
     refine rr ?_;exact en () trivial
    | false=>
     refine rr ?_;refine cl (c2) ?_;intro _ _;try simp only [Sx.ap1,Sx.ap2,Sx.ap3]
     cases q2 with
     | true=>
      refine rr ?_;refine cl (c3) ?_;intro _ _;try simp only [Sx.ap1,Sx.ap2,Sx.ap3]
      cases q3 with
      | true=>
       refine rr ?_;exact en () trivial
      | false=>
       refine rr ?_;exact en () trivial
     | false=>
      refine rr ?_;exact en () trivial
end Go.Proofs.YtkolmklfgbimoaaGreatDoor
namespace Go.Proofs.YtkolmklfgbimoaaGreatDoor
open Go
def leftN (at':List Int):Nat:=(at'.filter fun v=>decide (v<0)).length
structure OrdOk (l:List In) (at' out:List Int) (left:Nat):Prop where
 len:at'.length=l.length
 below:∀ v∈at',v<(out.length:Int)
 left:leftN at'=left
def muO (l:List In) (at' out:List Int) (left:Nat):Nat:=2*left+if candsF l at' (out.length:Int)=[] then 1 else 0
theorem leftN_pos {at':List Int} (h:0<leftN at'):∃ v∈at',v<0:=by
 unfold leftN at h;obtain ⟨v,hv⟩:=List.exists_mem_of_length_pos h;simp only [List.mem_filter,decide_eq_true_eq] at hv;exact ⟨v,hv.1,hv.2⟩
theorem getD_mem {l:List Int} {k:Nat} {d:Int} (h:k<l.length):l.getD k d∈l:=by
 rw [List.getD_eq_getElem?_getD,List.getElem?_eq_getElem h];exact List.getElem_mem h
theorem first_ready (l:List In) (at':List Int) (p:Int) (hp:∀ v∈at',v≤p-2) (hn:0<leftN at'):∃ j,j<at'.length∧readyF l at' j p=true:=by
 obtain ⟨v,hv,hv0⟩:=leftN_pos hn
 have key:∀ k,(∃ j,j<k∧j<at'.length∧at'.getD j 0<0)→∃ j,j<at'.length∧at'.getD j 0<0∧∀ i,i<j→¬ at'.getD i 0<0:=by
  intro k
  induction k with
  | zero=>rintro ⟨j,hj,_⟩;omega
  | succ k ih=>
   intro h;by_cases hk:∃ j,j<k∧j<at'.length∧at'.getD j 0<0
   ·exact ih hk
   ·obtain ⟨j,h1,h2,h3⟩:=h
    have:j=k:=by
     by_cases hjk:j<k
     ·exact absurd ⟨j,hjk,h2,h3⟩ hk
     ·omega
    subst this;exact ⟨j,h2,h3,fun i hi hc=>hk ⟨i,hi,by omega,hc⟩⟩
 obtain ⟨i,hi,he⟩:=List.mem_iff_getElem.1 hv;obtain ⟨j,h1,h2,h3⟩:=key at'.length ⟨i,hi,hi,by rw [List.getD_eq_getElem?_getD,List.getElem?_eq_getElem hi];simp only [Option.getD_some];rw [he];exact hv0⟩;refine ⟨j,h1,?_⟩;unfold readyF;rw [Bool.and_eq_true,List.all_eq_true];refine ⟨decide_eq_true h2,fun i hi=>?_⟩;have hij:i<j:=List.mem_range.1 hi;have h4:=h3 i hij;have h5:=hp _ (getD_mem (d:=0) (show i<at'.length by omega));have h6:=(farF_le (l.getD i nopI) (l.getD j nopI)).2;unfold blocksF;rw [decide_eq_false h4,decide_eq_false (show ¬ p<at'.getD i 0+farF (l.getD i nopI) (l.getD j nopI) by omega)];simp
theorem mem_cands {l:List In} {at':List Int} {p:Int} {j:Nat}:j∈candsF l at' p↔j<l.length∧readyF l at' j p=true:=by
 unfold candsF;rw [List.mem_filter,List.mem_range]
theorem bestG_mem (h:List Int):∀ (l:List Nat) (b:Option Nat) (j:Nat),bestG h b l=some j→j∈l∨b=some j
 | [],b,j,hb=>.inr hb
 | v::l,none,j,hb=>by
  rcases bestG_mem h l _ j hb with h1 | h1
  ·exact .inl (List.mem_cons_of_mem _ h1)
  ·left;cases h1;exact List.mem_cons_self
 | v::l,some u,j,hb=>by
  rcases bestG_mem h l _ j hb with h1 | h1
  ·exact .inl (List.mem_cons_of_mem _ h1)
  ·split at h1
   ·left;cases h1;exact List.mem_cons_self
   ·exact .inr h1
theorem bestG_some (h:List Int):∀ (l:List Nat) (u:Nat),(bestG h (some u) l).isSome=true
 | [],u=>rfl
 | v::l,u=>bestG_some h l _
theorem bestF_none {h:List Int} {l:List Nat}:bestF h l=none↔l=[]:=by
 cases l with
 | nil=>exact ⟨fun _=>rfl,fun _=>rfl⟩
 | cons v l=>
  refine ⟨fun hn=>?_,fun hn=>by cases hn⟩;have:=bestG_some h l v;unfold bestF bestG at hn;rw [hn] at this;cases this
theorem ord_stall {l:List In} {at' out:List Int} {left:Nat} (h:OrdOk l at' out left) (hl:0<left):OrdOk l at' (out++[-1]) left∧candsF l at' ((out++[-1]).length:Int)≠[]:=by
 have hlen:(((out++[-1]).length:Nat):Int)=(out.length:Int)+1:=by simp
 refine ⟨⟨h.len,fun v hv=>by have:=h.below v hv;rw [hlen];omega,h.left⟩,fun hc=>?_⟩;obtain ⟨j,h1,h2⟩:=first_ready l at' ((out++[-1]).length:Int) (fun v hv=>by have:=h.below v hv;rw [hlen];omega) (by rw [h.left];exact hl);have:j∈candsF l at' ((out++[-1]).length:Int):=mem_cands.2 ⟨by rw [← h.len];exact h1,h2⟩;rw [hc] at this;cases this
theorem leftN_set:∀ (at':List Int) (b:Nat) (p:Int),0≤p→b<at'.length→at'.getD b 0<0→leftN (at'.set b p)+1=leftN at'
 | [],b,p,_,h,_=>by simp at h
 | a::l,0,p,hp,_,h=>by
  have h:a<0:=h;unfold leftN;rw [List.set_cons_zero,List.filter_cons,List.filter_cons,if_neg (by simp;omega),if_pos (by simp;omega),List.length_cons]
 | a::l,b+1,p,hp,hb,h=>by
  have ih:=leftN_set l b p hp (by simpa using hb) h;unfold leftN at ih ⊢;rw [List.set_cons_succ,List.filter_cons,List.filter_cons];split <;> (try simp only [List.length_cons]) <;> omega
theorem ord_put {l:List In} {at' out:List Int} {left b:Nat} (h:OrdOk l at' out left) (hb:b∈candsF l at' (out.length:Int)):OrdOk l (at'.set b (out.length:Int)) (out++[(b:Int)]) (left-1)∧0<left∧b<l.length:=by
 obtain ⟨h1,h2⟩:=mem_cands.1 hb;unfold readyF at h2;rw [Bool.and_eq_true] at h2;have h3:=of_decide_eq_true h2.1;have h4:=leftN_set at' b (out.length:Int) (by omega) (by rw [h.len];exact h1) h3;rw [h.left] at h4;refine ⟨⟨by rw [List.length_set];exact h.len,fun v hv=>?_,by omega⟩,by omega,h1⟩;have hlen:(((out++[(b:Int)]).length:Nat):Int)=(out.length:Int)+1:=by simp
 rw [hlen];rcases List.mem_or_eq_of_mem_set hv with hv | rfl
 ·have:=h.below v hv;omega
 ·omega
theorem ord_start (l:List In):OrdOk l (List.replicate l.length (-1)) [] l.length:=by
 refine ⟨by simp,fun v hv=>?_,?_⟩
 ·rw [(List.mem_replicate.1 hv).2];decide
 ·unfold leftN;rw [List.filter_eq_self.2 (fun v hv=>by rw [(List.mem_replicate.1 hv).2];rfl)];simp
theorem cands_start (l:List In) (h:l≠[]):candsF l (List.replicate l.length (-1)) 0≠[]:=fun hc=>by
 have hl:0<l.length:=List.length_pos_iff.2 h
 have:0∈candsF l (List.replicate l.length (-1)) 0:=mem_cands.2 ⟨hl,by
  unfold readyF;rw [List.range_zero,List.all_nil,Bool.and_true,List.getD_eq_getElem?_getD,List.getElem?_replicate,if_pos hl];rfl⟩
 rw [hc] at this;cases this
theorem orderG_zero (l:List In) (h:List Int) (f:Nat) (at' out:List Int):orderG l h f at' out 0=out:=by cases f <;> simp [orderG]
theorem orderG_last (l:List In) (h:List Int):∀ (f:Nat) (at' out:List Int) (left:Nat),OrdOk l at' out left→0<left→muO l at' out left≤f→∃ o b,orderG l h f at' out left=o++[((b:Nat):Int)]∧b<l.length
 | 0,at',out,left,_,hl,hm=>by unfold muO at hm;omega
 | f+1,at',out,left,hok,hl,hm=>by
  rw [orderG,if_neg (by omega)];unfold muO at hm;cases hb:bestF h (candsF l at' (out.length:Int)) with
  | none=>
   dsimp only;rw [if_pos (bestF_none.1 hb)] at hm;obtain ⟨h1,h2⟩:=ord_stall hok hl;exact orderG_last l h f _ _ _ h1 hl (by unfold muO;rw [if_neg h2];omega)
  | some b=>
   dsimp only
   have hbm:b∈candsF l at' (out.length:Int):=by
    rcases bestG_mem h _ _ _ hb with h1 | h1
    ·exact h1
    ·cases h1
   obtain ⟨h1,h2,h3⟩:=ord_put hok hbm;by_cases h0:left-1=0
   ·rw [h0,orderG_zero];exact ⟨out,b,rfl,h3⟩
   ·exact orderG_last l h f _ _ _ h1 (by omega) (by unfold muO;split <;> omega)
theorem orderG_mem (l:List In) (h:List Int):∀ (f:Nat) (at' out:List Int) (left:Nat),(∀ x∈out,x = -1∨(0≤x∧x<l.length))→∀ x∈orderG l h f at' out left,x = -1∨(0≤x∧x<l.length)
 | 0,_,out,_,ho,x,hx=>ho x hx
 | f+1,at',out,left,ho,x,hx=>by
  rw [orderG] at hx;split at hx
  ·exact ho x hx
  ·split at hx
   ·exact orderG_mem l h f _ _ _ (fun y hy=>by
     rcases List.mem_append.1 hy with hy | hy
     ·exact ho y hy
     ·left;simpa using hy) x hx
   ·rename_i b hb
    have hbm:b∈candsF l at' (out.length:Int):=by
     rcases bestG_mem h _ _ _ hb with h1 | h1
     ·exact h1
     ·cases h1
    have h1:=(mem_cands.1 hbm).1
    exact orderG_mem l h f _ _ _ (fun y hy=>by
     rcases List.mem_append.1 hy with hy | hy
     ·exact ho y hy
     ·right;rw [List.mem_singleton.1 hy];omega) x hx
theorem orderG_len (l:List In) (h:List Int):∀ (f:Nat) (at' out:List Int) (left:Nat),OrdOk l at' out left→(orderG l h f at' out left).length≤out.length+muO l at' out left
 | 0,_,out,_,_=>by rw [orderG];omega
 | f+1,at',out,left,hok=>by
  rw [orderG];split
  ·omega
  ·rename_i hl;cases hb:bestF h (candsF l at' (out.length:Int)) with
   | none=>
    dsimp only;obtain ⟨h1,h2⟩:=ord_stall hok (by omega);have ih:=orderG_len l h f _ _ _ h1;unfold muO at ih ⊢;rw [if_neg h2] at ih;rw [if_pos (bestF_none.1 hb)];simp only [List.length_append,List.length_singleton] at ih;omega
   | some b=>
    dsimp only
    have hbm:b∈candsF l at' (out.length:Int):=by
     rcases bestG_mem h _ _ _ hb with h1 | h1
     ·exact h1
     ·cases h1
    obtain ⟨h1,h2,h3⟩:=ord_put hok hbm;have ih:=orderG_len l h f _ _ _ h1;unfold muO at ih ⊢;simp only [List.length_append,List.length_singleton] at ih;split at ih <;> split <;> omega
theorem orderF_spec (l:List In) (h:l≠[]):∃ o b,orderF l=o++[((b:Nat):Int)]∧b<l.length:=by
 have hl:0<l.length:=List.length_pos_iff.2 h;refine orderG_last l _ _ _ _ _ (ord_start l) hl ?_;unfold muO;split <;> omega
theorem orderF_mem (l:List In):∀ x∈orderF l,x = -1∨(0≤x∧x<l.length):=orderG_mem l _ _ _ _ _ (fun x hx=>by cases hx)
theorem orderF_len (l:List In):(orderF l).length≤2*l.length+1:=by
 have h:=orderG_len l (htsF l) (2*l.length+1) _ _ _ (ord_start l);unfold orderF;unfold muO at h;simp only [List.length_nil] at h;split at h <;> omega
end Go.Proofs.YtkolmklfgbimoaaGreatDoor
namespace Go.Proofs.YtkolmklfgbimoaaGreatDoor
open Go Go.Sx Go.Sx.Chunk
theorem maxF_le (a:In) (B:Int):∀ (l:List In) (hs:List Int) (m:Int),0≤m→m≤B→(∀ v∈hs,0≤v∧v+2≤B)→0≤maxF a l hs m∧maxF a l hs m≤B
 | [],hs,m,h0,h1,_=>by unfold maxF;exact ⟨h0,h1⟩
 | b::l,[],m,h0,h1,_=>by unfold maxF;exact ⟨h0,h1⟩
 | b::l,v::hs,m,h0,h1,h2=>by
  have hv:=h2 v (by simp);have hf:=farF_le a b;rw [maxF];refine maxF_le a B l hs _ ?_ ?_ (fun u hu=>h2 u (by simp [hu]))
  ·split <;> omega
  ·split <;> omega
theorem hts_le:∀ (l:List In),∀ v∈htsF l,0≤v∧v≤2*(l.length:Int)
 | [],v,hv=>by cases hv
 | a::l,v,hv=>by
  have ih:=hts_le l;rw [htsF] at hv;rw [List.length_cons];rcases List.mem_cons.1 hv with rfl | hv
  ·have:=maxF_le a (2*(l.length:Int)+2) l (htsF l) 0 (Int.le_refl _) (by omega) (fun u hu=>by have:=ih u hu;omega);omega
  ·have:=ih v hv;omega
theorem drop_at {α:Type} {l:List α} {j:Nat} {b:α} (h:l[j]? = some b):l.drop j=b::l.drop (j+1):=by
 obtain ⟨hj,he⟩:=List.getElem?_eq_some_iff.1 h;rw [List.drop_eq_getElem_cons hj,he]
theorem heightsC (a:Option Addr) (c:Nat) (l:List In) (hl:l.length≤4096):FnC Tryz.prog 190 [.slice a l.length c] [] [rng a (insC l)] (fun z:Option Addr×Nat=>.slice z.1 l.length z.2) (fun z=>[row z.1 z.2 3 1 l.length (i64C (htsF l))]) (fun _=>True):=by
 have hcl:=insC_len l;refine fn_intro Tryz.func190 Tryz.ntmps190 rfl rfl rfl (fun w0=>?_);refine rrs ?_;intro b1 _;refine rr ?_;rw [i64C_rep];refine lo [0,3] (fun k:Nat=>[(4,.int .i64 ((k:Int)-1))]) (fun k=>[(0,row (some ⟨b1,0,none⟩) l.length 3 1 l.length (i64C (List.replicate k 0++htsF (l.drop k))))]) (fun k=>k≤l.length) (fun k=>k) l.length (Nat.le_refl _) ?_ (hH:=by rw [List.drop_length];simp [htsF]);intro k hk K1 hK1;dsimp only at hk ⊢;by_cases h0:k=0
 ·subst h0;rw [List.drop_zero,List.replicate_zero,List.nil_append];refine rr ?_;exact en (some ⟨b1,0,none⟩,l.length) trivial
 obtain ⟨i,rfl⟩:∃ i,k=i+1:=⟨k-1,by omega⟩
 obtain ⟨e,he⟩:=some_at (l:=l) (k:=i) (by omega);have hHl:(htsF (l.drop (i+1))).length=l.length-(i+1):=by rw [htsF_len,List.length_drop]
 have hHb:=hts_le (l.drop (i+1));have hsp:htsF (l.drop i)=maxF e (l.drop (i+1)) (htsF (l.drop (i+1))) 0::htsF (l.drop (i+1)):=by rw [drop_at he,htsF]
 have hdl:((l.drop (i+1)).length:Int)≤4096:=by rw [List.length_drop];omega
 generalize hH:htsF (l.drop (i+1))=hs at *;rw [show ((i+1:Nat):Int)-1=(i:Int) by omega];refine rr ?_;refine lo [0,3,4] (fun x:Nat×Int=>[(5,.int .i64 (x.1:Int))]) (fun x=>[(0,row (some ⟨b1,0,none⟩) l.length 3 1 l.length (i64C (List.replicate i 0++x.2::hs)))]) (fun x=>i+1≤x.1∧x.1≤l.length∧0≤x.2∧x.2≤10000∧maxF e (l.drop x.1) (hs.drop (x.1-(i+1))) x.2=maxF e (l.drop (i+1)) hs 0) (fun x=>l.length-x.1) (i+1,0) ⟨Nat.le_refl _,hk,Int.le_refl _,by dsimp only;omega,by rw [Nat.sub_self,List.drop_zero]⟩ ?_ (hH:=by rw [List.replicate_succ',List.append_assoc];rfl);rintro ⟨j,m⟩ ⟨hj1,hj2,hm0,hm1,hmx⟩ K2 hK2;dsimp only at hj1 hj2 hm0 hm1 hmx ⊢;have hil:(i64C (List.replicate i 0++m::hs)).length=l.length:=by rw [i64C_len];simp;omega
 by_cases hlt:j<l.length
 ·obtain ⟨b,hb⟩:=some_at hlt;obtain ⟨v,hv⟩:=some_at (l:=hs) (k:=j-(i+1)) (by omega);have hvb:=hHb v (List.mem_of_getElem? hv);have hfb:=farF_le e b
  have hst:maxF e (l.drop (j+1)) (hs.drop (j+1-(i+1))) (if 0<farF e b then max m (farF e b+v) else m)=maxF e (l.drop (i+1)) hs 0:=by
   rw [← hmx,drop_at hb,drop_at hv,show j-(i+1)+1=j+1-(i+1) by omega,maxF]
  have hgi:(i64C (List.replicate i 0++m::hs))[0+(i:Int).toNat*1]? = some (.int .i64 m):=by
   rw [show 0+(i:Int).toNat*1=i by omega];refine i64C_get ?_;rw [List.getElem?_append_right (by simp),List.length_replicate,Nat.sub_self];rfl
  have hgj:(i64C (List.replicate i 0++m::hs))[0+(j:Int).toNat*1]? = some (.int .i64 v):=by
   rw [show 0+(j:Int).toNat*1=j by omega];refine i64C_get ?_;rw [List.getElem?_append_right (by simp;omega),List.length_replicate,show j-i=(j-(i+1))+1 by omega,List.getElem?_cons_succ];exact hv
  have hse:∀ u:Int,(i64C (List.replicate i 0++m::hs)).set (0+(i:Int).toNat*1) (.int .i64 u)=i64C (List.replicate i 0++u::hs):=fun u=>by
   rw [show 0+(i:Int).toNat*1=i by omega,i64C_set,List.set_append_right _ _ (by simp),List.length_replicate,Nat.sub_self];rfl
  have heA:((insC l).drop ((i:Int).toNat*5)).take 5=[.int .i64 e.op,.int .i64 e.a,.int .i64 e.b,.int .i64 e.c,.int .i64 e.imm]:=insC_all he _ (by omega);have heL:=insC_len l;have hbA:((insC l).drop ((j:Int).toNat*5)).take 5=[.int .i64 b.op,.int .i64 b.a,.int .i64 b.b,.int .i64 b.c,.int .i64 b.imm]:=insC_all hb _ (by omega);have hbL:=insC_len l;refine w_use (fun w hw=>(hw.pick 1 rfl).rng_some (by omega)) ?_;rintro ⟨g1,rfl⟩;refine rr ?_;refine dr [0,1,2,3,4,5,6,7,8,9] [3,7] [1] ?_;refine rr ?_;refine cle (farC e b) ?_;intro _ _;try simp only [Sx.ap1,Sx.ap2,Sx.ap3]
  by_cases hf:0<farF e b
  ·rw [if_pos hf] at hst;refine rr ?_;refine dr [0,1,2,3,4,5,6,7,8,9,10,11,12,13,14] [5,10] [0] ?_;refine rr ?_;intro _ _;refine rr ?_;rw [hse];exact ro hK2 (j+1,max m (farF e b+v)) ⟨by omega,hlt,by omega,by omega,hst⟩
  ·rw [if_neg hf] at hst;refine rr ?_;exact ro hK2 (j+1,m) ⟨by omega,hlt,hm0,hm1,hst⟩
 ·obtain rfl:j=l.length:=by omega
  rw [List.drop_length] at hmx;have hm2:∀ X,maxF e [] X m=m:=fun X=>by unfold maxF;rfl
  rw [hm2] at hmx;refine rr ?_;rw [show List.replicate i 0++m::hs=List.replicate i 0++htsF (l.drop i) by rw [hsp,← hmx]];exact ro hK1 i (by omega)
theorem all_range_succ (f:Nat→Bool) (i:Nat):(List.range (i+1)).all f=((List.range i).all f && f i):=by
 rw [List.range_succ,List.all_append];simp
theorem all_range_stop (f:Nat→Bool) {i j:Nat} (h:i<j) (hf:f i=false):(List.range j).all f=false:=by
 rw [List.all_eq_false];exact ⟨i,List.mem_range.2 h,by rw [hf];simp⟩
theorem readySC (la:Option Addr) (lc:Nat) (l:List In) (aa:Option Addr) (ac:Nat) (ats:List Int) (j:Nat) (p:Int) (hl:l.length≤4096) (hal:ats.length=l.length) (hj:j<l.length) (hb:∀ v∈ats,-1≤v∧v≤100000) (hp:0≤p∧p≤100000):FnC (α:=Unit) Tryz.prog 192 [.slice la l.length lc,.slice aa ats.length ac,.int .i64 (j:Int),.int .i64 p] [] [rng la (insC l),rng aa (i64C ats)] (fun _=>.bool (readyF l ats j p)) (fun _=>[]) (fun _=>True):=by
 have hcl:=insC_len l;have hca:=i64C_len ats;obtain ⟨ej,hej⟩:=some_at hj;obtain ⟨vj,hvj⟩:=some_at (l:=ats) (k:=j) (by omega);have hvb:=hb vj (List.mem_of_getElem? hvj);have hgj:(i64C ats)[(j:Int).toNat*1]? = some (.int .i64 vj):=by rw [show (j:Int).toNat*1=j by omega];exact i64C_get hvj
 have dj:ats.getD j 0=vj:=by simp [List.getD,hvj]
 have lj:l.getD j nopI=ej:=by simp [List.getD,hej]
 have hejA:((insC l).drop ((j:Int).toNat*5)).take 5=[.int .i64 ej.op,.int .i64 ej.a,.int .i64 ej.b,.int .i64 ej.c,.int .i64 ej.imm]:=insC_all hej _ (by omega);have hejL:=insC_len l;unfold readyF;rw [dj];refine fn_intro Tryz.func192 Tryz.ntmps192 rfl rfl rfl (fun w0=>?_);try simp only [Sx.ap1,Sx.ap2,Sx.ap3]
 refine w_use (fun w hw=>(hw.pick 0 rfl).rng_some (by omega)) ?_;rintro ⟨g1,rfl⟩;refine w_use (fun w hw=>(hw.pick 1 rfl).rng_some (by omega)) ?_;rintro ⟨g2,rfl⟩;by_cases hv0:vj<0
 ·rw [decide_eq_true hv0,Bool.true_and];refine rr ?_;refine lo [0,1,2,3,16] (fun k:Nat=>[(17,.int .i64 (k:Int))]) (fun k=>[]) (fun k=>k≤j∧(List.range k).all (fun i => !blocksF l ats j i p)=true) (fun k=>j-k) 0 ⟨Nat.zero_le _,by simp⟩ ?_;rintro i ⟨hi,hall⟩ K1 hK1;try dsimp only at hi hall ⊢
  by_cases hlt:i<j
  ·obtain ⟨ei,hei⟩:=some_at (l:=l) (k:=i) (by omega);obtain ⟨vi,hvi⟩:=some_at (l:=ats) (k:=i) (by omega);have hvib:=hb vi (List.mem_of_getElem? hvi);have hgi:(i64C ats)[(i:Int).toNat*1]? = some (.int .i64 vi):=by rw [show (i:Int).toNat*1=i by omega];exact i64C_get hvi
   have hbl:blocksF l ats j i p=(decide (0<farF ei ej) && (decide (vi<0) || decide (p<vi+farF ei ej))):=by
    unfold blocksF;rw [lj,show l.getD i nopI=ei by simp [List.getD,hei],show ats.getD i 0=vi by simp [List.getD,hvi]]
   have hfb:=farF_le ei ej;have heiA:((insC l).drop ((i:Int).toNat*5)).take 5=[.int .i64 ei.op,.int .i64 ei.a,.int .i64 ei.b,.int .i64 ei.c,.int .i64 ei.imm]:=insC_all hei _ (by omega);have heiL:=insC_len l;refine rr ?_;refine dr [0,1,2,3,4,5,6,7,8,9] [3,7] [0] ?_;refine rr ?_;refine cle (farC ei ej) ?_;intro _ _;try simp only [Sx.ap1,Sx.ap2,Sx.ap3]
   generalize farF ei ej=f at *;by_cases hf:0<f
   ·rw [decide_eq_true hf,Bool.true_and] at hbl;by_cases hvi0:vi<0
    ·rw [decide_eq_true hvi0,Bool.true_or] at hbl;refine rr ?_;refine en () trivial (hv:=?_);rw [all_range_stop _ hlt (by rw [hbl];rfl)];rfl
    ·rw [decide_eq_false hvi0,Bool.false_or] at hbl;by_cases hpl:p<vi+f
     ·rw [decide_eq_true hpl] at hbl;refine rr ?_;refine en () trivial (hv:=?_);rw [all_range_stop _ hlt (by rw [hbl];rfl)];rfl
     ·rw [decide_eq_false hpl] at hbl;refine rr ?_;exact ro hK1 (i+1) ⟨hlt,by rw [all_range_succ,hall,hbl];rfl⟩
   ·rw [decide_eq_false hf,Bool.false_and] at hbl;refine rr ?_;exact ro hK1 (i+1) ⟨hlt,by rw [all_range_succ,hall,hbl];rfl⟩
  ·obtain rfl:i=j:=by omega
   refine rr ?_;refine en () trivial (hv:=?_);rw [hall];rfl
 ·rw [decide_eq_false hv0,Bool.false_and];refine rr ?_;exact en () trivial
end Go.Proofs.YtkolmklfgbimoaaGreatDoor
