/- Texts of the proof, in their order: Le1, Rp1, Or1, Or2, Or3, Or4, Or5, Bl1, Bl2, Bl3, Bl4, Bl5, Bl6, Rg1. -/
import Derived.Test.YtkolmklfgbimoaaGreatDoorM7
set_option linter.unusedVariables false
set_option linter.unusedSimpArgs false
set_option maxHeartbeats 16000000
set_option maxRecDepth 100000
namespace Go.Proofs.YtkolmklfgbimoaaGreatDoor
open Go Go.Sx Go.Sx.Chunk
theorem lessC (x:Nat) (ha:Option Addr) (hc:Nat) (hs:List Int) (v u:Nat) (hv:v<hs.length) (hu:u<hs.length):FnC (α:=Unit) Tryz.prog 194 [.int .i64 (v:Int),.int .i64 (u:Int),.pointer (some ⟨x,0,none⟩)] [blk x [.slice ha hs.length hc] 41,row ha hc 3 1 hs.length (i64C hs)] [] (fun _=>.bool (decide (hs.getD u 0<hs.getD v 0))) (fun _=>[blk x [.slice ha hs.length hc] 41,row ha hc 3 1 hs.length (i64C hs)]) (fun _=>True):=by
 have hil:=i64C_len hs;obtain ⟨ev,hev⟩:=some_at hv;obtain ⟨eu,heu⟩:=some_at hu;rw [show hs.getD u 0=eu by simp [List.getD,heu],show hs.getD v 0=ev by simp [List.getD,hev]];have hgv:(i64C hs)[0+(v:Int).toNat*1]? = some (.int .i64 ev):=by rw [show 0+(v:Int).toNat*1=v by omega];exact i64C_get hev
 have hgu:(i64C hs)[0+(u:Int).toNat*1]? = some (.int .i64 eu):=by rw [show 0+(u:Int).toNat*1=u by omega];exact i64C_get heu
 refine fn_intro Tryz.func194 Tryz.ntmps194 rfl rfl rfl (fun w0=>?_);try simp only [Sx.ap1,Sx.ap2,Sx.ap3]
 refine w_use (fun w hw=>(hw.pick 1 rfl).row_some (by omega)) ?_;rintro ⟨g1,rfl⟩;refine rr ?_;refine dr [0,1,2,3,4,5,6,7,8,9] [0,3,4,7] [0,1] ?_;refine rr ?_;refine rr ?_;exact en () trivial
def lessV (x:Nat):Value:=.func (.func 194) #[] #[.pointer (some ⟨x,0,none⟩)]
def bestH (b3 b6 b7 x:Nat) (ha:Option Addr) (hc:Nat) (hs:List Int) (q:Option Nat):List Chunk:=[blk b6 [.int .i64 ((q.getD 0:Nat):Int)] 3,blk b7 [.bool q.isSome] 4,blk b3 [lessV x] 173,blk x [.slice ha hs.length hc] 41,row ha hc 3 1 hs.length (i64C hs)]
theorem bestG_snoc (h:List Int):∀ (l:List Nat) (b:Option Nat) (v:Nat),bestG h b (l++[v])=(match bestG h b l with
  | none=>some v
  | some u=>some (if h.getD u 0<h.getD v 0 then v else u))
 | [],none,v=>rfl
 | [],some u,v=>rfl
 | a::l,none,v=>by rw [List.cons_append,bestG,bestG_snoc h l];rfl
 | a::l,some u,v=>by rw [List.cons_append,bestG,bestG_snoc h l];rfl
theorem bestG_lt (h:List Int) (n:Nat):∀ (l:List Nat) (b:Option Nat),(∀ v∈l,v<n)→(∀ u,b=some u→u<n)→∀ u,bestG h b l=some u→u<n
 | [],b,_,hb,u,hu=>hb u hu
 | v::l,none,hl,_,u,hu=>bestG_lt h n l _ (fun w hw=>hl w (by simp [hw])) (fun w hw=>by cases hw;exact hl v (by simp)) u hu
 | v::l,some a,hl,hb,u,hu=>bestG_lt h n l _ (fun w hw=>hl w (by simp [hw])) (fun w hw=>by
   split at hw <;> cases hw
   ·exact hl v (by simp)
   ·exact hb _ rfl) u hu
theorem leastC (s b:Nat) (m:Option Nat) (oa:Option Addr) (oc:Nat) (cs:List Nat) (x:Nat) (ha:Option Addr) (hc:Nat) (hs:List Int) (hl:cs.length≤1000000) (hcs:∀ v∈cs,v<hs.length) :
  FnC (α:=Unit) Tryz.prog 193 [.func (.func 226) #[] #[.pointer (some ⟨s,0,none⟩)],lessV x]
   (boxS s b::setI b m oa oc (cs.map fun n:Nat=>(n:Int))++[blk x [.slice ha hs.length hc] 41,row ha hc 3 1 hs.length (i64C hs)]) []
   (fun _=>.tuple #[.int .i64 (((bestF hs cs).getD 0:Nat):Int),.bool (bestF hs cs).isSome])
   (fun _=>boxS s b::setI b m oa oc (cs.map fun n:Nat=>(n:Int))++[blk x [.slice ha hs.length hc] 41,row ha hc 3 1 hs.length (i64C hs)]) (fun _=>True):=by
 have hi := @allIC;unfold bestF;unfold boxS setI at *;refine fn_introM Tryz.func193 Tryz.ntmps193 rfl rfl rfl (fun w0=>?_);refine rrs ?_;intro b3 _;refine rr ?_;intro b6 _;refine rr ?_;intro b7 _;refine rr ?_;refine hv ([boxS s b]++setI b m oa oc (cs.map fun n:Nat=>(n:Int))++bestH b3 b6 b7 x ha hc hs none) ?_ (hp:=by unfold boxS setI bestH lessV;(repeat (first | exact Has.nil | (apply Has.cons;focus ((repeat (first | exact pick_here | apply pick_there));done)) | apply Has.nrow | apply Has.gen0)))
 refine w_rangeFunc (σ:=Option Nat) (τ:=Empty) (A:=[boxS s b]++setI b m oa oc (cs.map fun n:Nat=>(n:Int))++bestH b3 b6 b7 x ha hc hs none) [0,0,0,0,0,0,0,0,0]
  (fun q=>[boxS s b]++setI b m oa oc (cs.map fun n:Nat=>(n:Int))++bestH b3 b6 b7 x ha hc hs q) (fun e=>e.elim) (fun q=>q=bestG hs none ((cs.map fun n:Nat=>(n:Int)).map Int.toNat)) (fun e=>False) (fun e=>e.elim) ?_ rfl rfl rfl (fun q=>by unfold boxS setI bestH;cases m <;> rfl) (fun e=>e.elim) ?_ (fun D e=>e.elim)
 ·intro ly D fn tmps hE;have hz:=fun (ag bd:Code)=>hi (σ:=Option Nat) (τ:=Empty) ly s b m oa oc (cs.map fun n:Nat=>(n:Int)) (by simp;omega) (fun q=>recC ly (recL fn tmps #[10] ag bd D)::bestH b3 b6 b7 x ha hc hs q) (fun e=>e.elim) (fun pre q=>q=bestG hs none (pre.map Int.toNat)) (fun e=>False) none
  refine (hz _ _ ?_ (fun _=>rfl) (fun e=>e.elim) rfl).perm [1,1,1,1,0,0,0,0,0,0] rfl ?_ ?_
  ·intro pre e rest q hsplit hq
   obtain ⟨v,hv,rfl⟩:∃ v∈cs,(v:Int)=e:=by
    have:e∈cs.map fun n:Nat=>(n:Int):=by rw [hsplit];simp
    obtain ⟨v,hv,he⟩:=List.mem_map.1 this;exact ⟨v,hv,he⟩
   have hvl:=hcs v hv
   have hpl:∀ w∈pre.map Int.toNat,w<hs.length:=fun w hw=>by
    obtain ⟨z,hz1,rfl⟩:=List.mem_map.1 hw;have:z∈cs.map fun n:Nat=>(n:Int):=by rw [hsplit];simp [hz1]
    obtain ⟨v2,hv2,he2⟩:=List.mem_map.1 this;have:=hcs v2 hv2;omega
   have hul:=bestG_lt hs hs.length (pre.map Int.toNat) none hpl (fun u hu=>by cases hu);have hsn:=bestG_snoc hs (pre.map Int.toNat) none v;rw [show (v:Nat)=((v:Int)).toNat by simp,← List.map_singleton (f:=Int.toNat),← List.map_append] at hsn;rw [← hq] at hul hsn;refine yd_go (ps:=[10]) (E0:=[(3,.pointer (some ⟨b3,0,none⟩)),(6,.pointer (some ⟨b6,0,none⟩)),(7,.pointer (some ⟨b7,0,none⟩))]) hE ⟨rfl,rfl,rfl,trivial⟩ rfl rfl (fun w0=>?_);simp only [List.zip_cons_cons,List.zip_nil_right,envPut];unfold bestH lessV;refine rr ?_;refine w_begin rfl rfl ?_;cases q with
   | none=>
    dsimp only [Option.isSome_none] at hsn ⊢;refine rr ?_;exact w_rgo (Sum.inl (some v)) [0,1,0,0,0,0] (i:=2) rfl rfl rfl hsn.symm
   | some u=>
    have hus:=hul u rfl;have hle:=lessC x ha hc hs v u hvl hus;have hsn2:bestG hs none (List.map Int.toNat (pre++[(v:Int)]))=some (if hs.getD u 0<hs.getD v 0 then v else u):=hsn;dsimp only [Option.isSome_some,Option.getD_some];refine rr ?_;refine clv (hle) ?_;intro _ _;try simp only [Sx.ap1,Sx.ap2,Sx.ap3]
    by_cases hlt:hs.getD u 0<hs.getD v 0
    ·rw [if_pos hlt] at hsn2;rw [decide_eq_true hlt];refine rr ?_;exact w_rgo (Sum.inl (some v)) [0,1,0,2,0,0] (i:=4) rfl rfl rfl hsn2.symm
    ·rw [if_neg hlt] at hsn2;rw [decide_eq_false hlt];refine rr ?_;exact w_rgo (Sum.inl (some u)) [0,2,2,2,0,0] (i:=2) rfl rfl rfl hsn2.symm
  ·intro z;cases z with | inl z=>(cases m <;> rfl) | inr e=>exact e.elim
  ·intro z;cases z with | inl z=>exact ⟨[4,0,0,0,0,0,0,0,0,0],[],rfl⟩ | inr e=>exact e.elim
 ·intro D q hq;unfold bestH boxS setI;rw [show ((cs.map fun n:Nat=>(n:Int)).map Int.toNat)=cs by rw [List.map_map];simp [Function.comp_def]] at hq;subst hq;refine rr ?_;refine dr [0,1,2,3] [0,1] [4,5] ?_;refine rr ?_;exact weM1 () [0,0,0,0,3,3] trivial
theorem mul1C (n:Nat) (h:n≤1000000000):FnC (α:=Unit) Tryz.prog 229 [.int .u64 1,.int .u64 (n:Int)] [] [] (fun _=>.tuple #[.int .u64 0,.int .u64 (n:Int)]) (fun _=>[]) (fun _=>True):=
 fnc_same ⟨_,_,Tryz.func229,rfl,by kernel_rfl⟩ fun w hw=>by
  have h1:=_root_.Go.Proofs.Tryz.bits_Mul 1 n (by omega) (by omega) w;rw [show 1*n / 18446744073709551616=0 by omega,show 1*n % 18446744073709551616=n by omega] at h1;exact h1
def filL (v:Int) (k n:Nat):List Int:=List.replicate k v++List.replicate (n-k) 0
theorem filL_copy (v:Int) {k n:Nat} (h:k≤n):(i64C (filL v k n)).take k++(i64C (filL v k n)).take (min k (n-k))++(i64C (filL v k n)).drop (k+min k (n-k))=i64C (filL v (k+min k (n-k)) n):=by
 have hm:min k (n-k)≤k∧min k (n-k)≤n-k:=⟨Nat.min_le_left _ _,Nat.min_le_right _ _⟩
 generalize min k (n-k)=r at *
 have h1:∀ j,j≤k→(filL v k n).take j=List.replicate j v:=fun j hj=>by
  unfold filL;rw [List.take_append_of_le_length (by simpa using hj),List.take_replicate,Nat.min_eq_left hj]
 have h2:(filL v k n).drop (k+r)=List.replicate (n-(k+r)) 0:=by
  unfold filL;rw [List.drop_append,List.length_replicate,List.drop_replicate,List.drop_replicate,show k-(k+r)=0 by omega,show n-k-(k+r-k)=n-(k+r) by omega];rfl
 unfold i64C;rw [← List.map_take,← List.map_take,← List.map_drop,h1 k (Nat.le_refl _),h1 r hm.1,h2,← List.map_append,← List.map_append];unfold filL;rw [List.replicate_append_replicate]
theorem repeatC (a:Addr) (c n:Nat) (v:Int) (hn:n≤100000):FnC Tryz.prog 191 [.slice (some a) 1 c,.int .i64 (n:Int)] [] [rng (some a) [.int .i64 v]] (fun z:Option Addr×Nat=>.slice z.1 n z.2) (fun z=>[row z.1 z.2 3 1 n (i64C (List.replicate n v))]) (fun _=>True):=by
 have hm:=mul1C n (by omega);refine fn_intro Tryz.func191 Tryz.ntmps191 rfl rfl rfl (fun w0=>?_);refine rrs ?_;refine cl (hm) ?_;intro _ _;refine rrs ?_;intro b1 _;refine rr ?_;refine w_eff (eff_copyG (i:=0) (i2:=1) T rfl rfl rfl rfl rfl rfl rfl (fun u hu=>by rw [List.mem_singleton.1 hu];rfl) (by omega) (Nat.le_refl _) rfl) (fun _ _=>?_)
 have hc0:List.take 0 (List.replicate n (Value.int .i64 0))++List.take (min 1 n) [Value.int .i64 v]++List.drop (0+min 1 n) (List.replicate n (Value.int .i64 0))=i64C (filL v (min 1 n) n):=by
  have hm:min 1 n≤1:=Nat.min_le_left _ _;generalize min 1 n=r at *;unfold filL i64C;rw [List.take_zero,List.nil_append,List.drop_replicate,Nat.zero_add,List.map_append,List.map_replicate,List.map_replicate]
  congr 1
  match r,hm with
  | 0,_=>rfl
  | 1,_=>rfl
 rw [hc0];have hmn:min 1 n≤n:=Nat.min_le_right _ _;have hm0:n=0∨1≤min 1 n:=by omega
 generalize min 1 n=r at *;refine rr ?_;refine lo [7] (fun k:Nat=>[(8,.int .i64 (k:Int))]) (fun k=>[(0,row (some ⟨b1,0,none⟩) n 3 1 n (i64C (filL v k n)))]) (fun k=>k≤n∧(n=0∨1≤k)) (fun k=>n-k) r ⟨hmn,hm0⟩ ?_;rintro k ⟨hk,hk0⟩ K1 hK1;dsimp only at hk hk0 ⊢;by_cases hlt:k<n
 ·have hsl:sliceV (some ⟨b1,0,none⟩) n 1 (((some (k:Int)).getD 0).toNat) (((none:Option Int).getD (n:Int)).toNat) = .slice (some ⟨b1,k,none⟩) (n-k) (n-k):=by
   unfold sliceV;simp only [Option.getD_some,Option.getD_none,Int.toNat_natCast,Nat.mul_one]
   first | rfl | (rw [if_neg (by omega)];simp [Addr.add];omega) | simp [Addr.add]
  refine rr ?_;refine dx [0,1,2,3,4,5,6,7,8,9] [] [] ?_;refine rr ?_
  refine wa_effd rfl (by kernel_rfl) rfl (eff_copyS (i:=0) (us:=0) (k2:=k) (o2:=0) T (congrArg some hsl) rfl rfl rfl rfl rfl (fun u hu=>by
   obtain ⟨z,_,rfl⟩:=List.mem_map.1 hu;rfl) (by omega) (by omega) rfl) (by kernel_rfl) (by kernel_rfl) (fun _ _=>?_)
  rw [List.drop_zero,filL_copy v hk];have hr2:min k (n-k)≤n-k:=Nat.min_le_right _ _;have hr3:1≤min k (n-k):=by omega
  generalize min k (n-k)=r2 at *;refine rr ?_;exact ro hK1 (k+r2) ⟨by omega,.inr (by omega)⟩
 ·obtain rfl:k=n:=by omega
  have hf:filL v k k=List.replicate k v:=by unfold filL;simp
  rw [hf];refine rr ?_;exact en (some ⟨b1,0,none⟩,k) trivial
def candG (l:List In) (ats:List Int) (p:Int) (j:Nat):List Nat:=(List.range j).filter fun j=>readyF l ats j p
theorem candG_succ (l:List In) (ats:List Int) (p:Int) (j:Nat):candG l ats p (j+1)=if readyF l ats j p then candG l ats p j++[j] else candG l ats p j:=by
 unfold candG;rw [List.range_succ,List.filter_append];cases h:readyF l ats j p <;> simp [h]
theorem candG_lt (l:List In) (ats:List Int) (p:Int) (j:Nat):∀ v∈candG l ats p j,v<j:=fun v hv=>List.mem_range.1 (List.mem_filter.1 hv).1
theorem candG_len (l:List In) (ats:List Int) (p:Int) (j:Nat):(candG l ats p j).length≤j:=Nat.le_trans (List.length_filter_le _ _) (by simp)
theorem candG_new (l:List In) (ats:List Int) (p:Int) (j:Nat):inI (j:Int) ((candG l ats p j).map fun n:Nat=>(n:Int))=false:=by
 unfold inI;rw [List.any_eq_false];intro z hz;obtain ⟨v,hv,rfl⟩:=List.mem_map.1 hz;have:=candG_lt l ats p j v hv;simp;omega
structure OrdL (l:List In) (x:List Int×List Int×Nat):Prop where
 ok:OrdOk l x.1 x.2.1 x.2.2
 low:∀ v∈x.1,-1≤v
 run:∃ f,muO l x.1 x.2.1 x.2.2≤f∧orderG l (htsF l) f x.1 x.2.1 x.2.2=orderF l
 room:x.2.1.length+muO l x.1 x.2.1 x.2.2≤2*l.length+1
theorem OrdL.start (l:List In):OrdL l (List.replicate l.length (-1),[],l.length):=by
 have hm:muO l (List.replicate l.length (-1)) [] l.length≤2*l.length+1:=by unfold muO;split <;> omega
 exact ⟨ord_start l,fun v hv=>by rw [(List.mem_replicate.1 hv).2];exact Int.le_refl _,⟨_,hm,rfl⟩,by simpa using hm⟩
theorem OrdL.done {l:List In} {ats out:List Int} (h:OrdL l (ats,out,0)):out=orderF l:=by
 obtain ⟨f,_,hf⟩:=h.run;rw [← hf];exact (orderG_zero l _ f ats out).symm
theorem OrdL.stall {l:List In} {ats out:List Int} {left:Nat} (h:OrdL l (ats,out,left)) (hl:0<left) (hb:bestF (htsF l) (candsF l ats (out.length:Int))=none):OrdL l (ats,out++[-1],left)∧muO l ats (out++[-1]) left<muO l ats out left:=by
 obtain ⟨h1,h2,⟨f,hf,hr⟩,h4⟩:=h;dsimp only at h1 h2 hf hr h4;obtain ⟨g1,g2⟩:=ord_stall h1 hl
 have hmu:muO l ats (out++[-1]) left+1=muO l ats out left:=by
  unfold muO;rw [if_neg g2,if_pos (bestF_none.1 hb)]
 refine ⟨⟨g1,h2,?_,by dsimp only;rw [List.length_append,List.length_singleton];omega⟩,by omega⟩;obtain ⟨g,rfl⟩:∃ g,f=g+1:=⟨f-1,by omega⟩
 rw [orderG,if_neg (by omega),hb] at hr;exact ⟨g,by dsimp only;omega,hr⟩
theorem OrdL.put {l:List In} {ats out:List Int} {left b:Nat} (h:OrdL l (ats,out,left)) (hb:bestF (htsF l) (candsF l ats (out.length:Int))=some b):OrdL l (ats.set b (out.length:Int),out++[(b:Int)],left-1)∧muO l (ats.set b (out.length:Int)) (out++[(b:Int)]) (left-1)<muO l ats out left∧0<left∧b<l.length:=by
 obtain ⟨h1,h2,⟨f,hf,hr⟩,h4⟩:=h;dsimp only at h1 h2 hf hr h4
 have hbm:b∈candsF l ats (out.length:Int):=by
  rcases bestG_mem _ _ _ _ hb with h1 | h1
  ·exact h1
  ·cases h1
 obtain ⟨g1,g2,g3⟩:=ord_put h1 hbm
 have hmu:muO l (ats.set b (out.length:Int)) (out++[(b:Int)]) (left-1)+1≤muO l ats out left:=by
  unfold muO;split <;> split <;> omega
 refine ⟨⟨g1,fun v hv=>?_,?_,by dsimp only;rw [List.length_append,List.length_singleton];omega⟩,by omega,g2,g3⟩
 ·rcases List.mem_or_eq_of_mem_set hv with hv | rfl
  ·exact h2 v hv
  ·omega
 ·obtain ⟨g,rfl⟩:∃ g,f=g+1:=⟨f-1,by unfold muO at hf;omega⟩
  rw [orderG,if_neg (by omega),hb] at hr;exact ⟨g,by dsimp only;omega,hr⟩
theorem orderC (la:Option Addr) (lc:Nat) (l:List In) (hl:l.length≤4096):FnC Tryz.prog 137 [.slice la l.length lc] [] [rng la (insC l)] (fun z:Option Addr×Nat=>.slice z.1 (orderF l).length z.2) (fun z=>[row z.1 z.2 3 1 (orderF l).length (i64C (orderF l))]) (fun _=>True):=by
 have h1:=heightsC la lc l hl;have h2:=fun b=>repeatC ⟨b,0,none⟩ 1 l.length (-1) (by omega)
 refine fn_intro Tryz.func137 Tryz.ntmps137 rfl rfl rfl (fun w0=>?_);refine rrs ?_;refine cl (h1) ?_;intro ⟨ha,hc⟩ _;refine rrs ?_;intro b3 _;refine rr ?_;intro b4 _;refine rr ?_;refine cl (h2 b4) ?_;intro ⟨ra,rc⟩ _;refine rrs ?_;have hts:=htsF_len l;refine hv [row ra rc 3 1 l.length (i64C (List.replicate l.length (-1))),row none 0 3 1 ([]:List Int).length (i64C []),blk b3 [.slice ha l.length hc] 41,row ha hc 3 1 l.length (i64C (htsF l)),rng la (insC l)] ?_;refine lo [0,3,4] (fun x:(List Int×List Int×Nat)×Option Addr×Nat=>[(5,.slice x.2.1 x.1.2.1.length x.2.2),(6,.int .i64 (x.1.2.2:Int))]) (fun x=>[(0,row ra rc 3 1 l.length (i64C x.1.1)),(1,row x.2.1 x.2.2 3 1 x.1.2.1.length (i64C x.1.2.1))]) (fun x=>OrdL l x.1) (fun x=>muO l x.1.1 x.1.2.1 x.1.2.2) ((List.replicate l.length (-1),[],l.length),none,0) (OrdL.start l) ?_;rintro ⟨⟨ats,out,left⟩,oa,oc⟩ hx K1 hK1;dsimp only at hx ⊢;have hal:=hx.ok.len;have hroom:=hx.room;have hlow:=hx.low;have hbel:=hx.ok.below;dsimp only at hal hroom hlow hbel;by_cases hl0:left=0
 ·subst hl0;have he:=hx.done;rw [he];refine rr ?_;exact en (oa,oc) trivial
 have hatb:∀ v∈ats,-1≤v∧v≤100000:=fun v hv=>⟨hlow v hv,by have:=hbel v hv;omega⟩
 have hlp:(0:Int)<(left:Int):=by omega
 have hlm:2*left≤muO l ats out left:=by unfold muO;omega
 have hlb:left≤10000:=by omega
 have hrd:=fun j (hj:j<l.length)=>readySC la lc l ra rc ats j (out.length:Int) hl hal hj hatb ⟨by omega,by omega⟩
 rw [hal] at hrd;refine rr ?_;intro b7 _;refine rr ?_;refine hv (setI b7 none none 0 []++[row ra rc 3 1 l.length (i64C ats),row oa oc 3 1 out.length (i64C out),blk b3 [.slice ha l.length hc] 41,row ha hc 3 1 l.length (i64C (htsF l)),rng la (insC l)]) ?_ (hp:=by unfold setI mapI;(repeat (first | exact Has.nil | (apply Has.cons;focus ((repeat (first | exact pick_here | apply pick_there));done)) | apply Has.nrow | apply Has.gen0)));unfold setI;simp only [List.cons_append,List.nil_append];refine lo [0,3,4,5,6,7,22] (fun y:Nat×Option Nat×Option Addr×Nat=>[(23,.int .i64 (y.1:Int))]) (fun y=>[(0,blk b7 [.map y.2.1,.slice y.2.2.1 ((candG l ats (out.length:Int) y.1).map fun n:Nat=>(n:Int)).length y.2.2.2] 231),(1,row y.2.2.1 y.2.2.2 3 1 ((candG l ats (out.length:Int) y.1).map fun n:Nat=>(n:Int)).length (i64C ((candG l ats (out.length:Int) y.1).map fun n:Nat=>(n:Int)))),(2,mapI y.2.1 ((candG l ats (out.length:Int) y.1).map fun n:Nat=>(n:Int)))]) (fun y=>y.1≤l.length∧setIOk y.2.1 ((candG l ats (out.length:Int) y.1).map fun n:Nat=>(n:Int))) (fun y=>l.length-y.1) (0,none,none,0) ⟨Nat.zero_le _,fun _=>rfl⟩ ?_;rintro ⟨j,m,sa,sc⟩ ⟨hj,hm⟩ K2 hK2;dsimp only at hj hm ⊢;by_cases hlt:j<l.length
 ·have hcl:=candG_len l ats (out.length:Int) j;have hnew:=candG_new l ats (out.length:Int) j;have hsucc:=candG_succ l ats (out.length:Int) j;have hadd:=setIAddC b7 m sa sc ((candG l ats (out.length:Int) j).map fun n:Nat=>(n:Int)) (j:Int) hm (by simp;omega);rw [hnew] at hadd;unfold setI at hadd;simp only [Bool.not_false,Bool.false_eq_true,if_false] at hadd;refine rr ?_;refine cl (hrd j hlt) ?_;intro _ _;try simp only [Sx.ap1,Sx.ap2,Sx.ap3]
  cases hr:readyF l ats j (out.length:Int) with
  | true=>
   rw [hr,if_pos rfl] at hsucc;refine rr ?_;refine cl (hadd) (ho:=fun z=>by obtain ⟨m3,_,_⟩:=z;cases m3 <;> rfl) ?_;intro ⟨m2,sa2,sc2⟩ hm2;try simp only [Sx.ap1,Sx.ap2,Sx.ap3]
   dsimp only at hm2 ⊢;rw [show ((candG l ats (out.length:Int) j).map fun n:Nat=>(n:Int))++[(j:Int)]=(candG l ats (out.length:Int) (j+1)).map fun n:Nat=>(n:Int) by rw [hsucc,List.map_append];rfl] at hm2 ⊢;refine rr ?_;exact ro hK2 (j+1,m2,sa2,sc2) ⟨hlt,hm2⟩
  | false=>
   rw [hr,if_neg (by simp)] at hsucc;rw [← hsucc] at hm ⊢;refine rr ?_;exact ro hK2 (j+1,m,sa,sc) ⟨hlt,hm⟩
 ·obtain rfl:j=l.length:=by omega
  refine rr ?_;have hcc:candG l ats (out.length:Int) l.length=candsF l ats (out.length:Int):=rfl;have hcl:=candG_len l ats (out.length:Int) l.length;have hclt:=candG_lt l ats (out.length:Int) l.length;have hle:=fun s=>leastC s b7 m sa sc (candG l ats (out.length:Int) l.length) b3 ha hc (htsF l) (by omega) (fun v hv=>by rw [hts];exact hclt v hv)
  rw [hts] at hle;unfold setI boxS lessV at hle;have hall:=allSC b7;unfold boxS at hall;rw [hcc] at hle ⊢;refine cl (hall) ?_;intro s _;refine rrs ?_;refine cl (hle s) (ho:=fun _=>by cases m <;> rfl) ?_;intro _ _;try simp only [Sx.ap1,Sx.ap2,Sx.ap3]
  cases hb:bestF (htsF l) (candsF l ats (out.length:Int)) with
  | none=>
   dsimp only [Option.isSome_none,Option.getD_none];obtain ⟨hx2,hmu⟩:=hx.stall (by omega) hb;refine rr ?_;intro b9 _;refine rr ?_;rintro ⟨pa,pc⟩ ⟨ph,_⟩;refine rr ?_;rw [← i64C_snoc,show out.length+1=(out++[(-1:Int)]).length by simp];exact ro hK1 ((ats,out++[-1],left),pa,pc) hx2
  | some b=>
   dsimp only [Option.isSome_some,Option.getD_some];obtain ⟨hx2,hmu,hlp2,hbl⟩:=hx.put hb;have hial:(i64C ats).length=l.length:=by rw [i64C_len];exact hal
   have hse:(i64C ats).set (0+(b:Int).toNat*1) (.int .i64 (out.length:Int))=i64C (ats.set b (out.length:Int)):=by rw [show 0+(b:Int).toNat*1=b by omega,i64C_set]
   have hlf:(left:Int)-1=((left-1:Nat):Int):=by omega
   refine w_use (fun w hw=>(hw.pick 6 rfl).row_some (by first | omega | decide | (simp;done) | (simp <;> omega))) ?_;rintro ⟨gr,rfl⟩;refine rr ?_;intro b9 _;refine rr ?_;rintro ⟨pa,pc⟩ ⟨ph,_⟩;refine rr ?_;rw [← i64C_snoc,show out.length+1=(out++[(b:Int)]).length by simp,hse];exact ro hK1 ((ats.set b (out.length:Int),out++[(b:Int)],left-1),pa,pc) hx2 (hE:=by rw [← hlf];exact ⟨rfl,rfl,rfl,rfl,rfl,trivial⟩)
theorem clearC (la:Option Addr) (lc:Nat) (l:List In) (oa:Option Addr) (oc:Nat) (o:List Int) (last:In) (p:Int) (hl:l.length≤4096) (hol:o.length≤20000) (ho:∀ x∈o,x = -1∨(0≤x∧x<l.length)) (hp:0≤p∧p≤100000):FnC (α:=Unit) Tryz.prog 140 [.slice la l.length lc,.slice oa o.length oc,inG last,.int .i64 p] [] [rng la (insC l),rng oa (i64C o)] (fun _=>.bool (clearF l o last p)) (fun _=>[]) (fun _=>True):=by
 have hcl:=insC_len l;have hco:=i64C_len o;unfold clearF inG;refine fn_intro Tryz.func140 Tryz.ntmps140 rfl rfl rfl (fun w0=>?_);refine rrs ?_;intro b6 _;refine rr ?_;refine lo [0,3,6,11,12] (fun k:Nat=>[(13,.int .i64 (k:Int))]) (fun k=>[]) (fun k=>k≤o.length∧clearG l last p 0 o=clearG l last p k (o.drop k)) (fun k=>o.length-k) 0 ⟨Nat.zero_le _,rfl⟩ ?_;rintro k ⟨hk,hcg⟩ K1 hK1;try dsimp only at hk hcg ⊢
 rw [hcg];by_cases hlt:k<o.length
 ·obtain ⟨v,hv⟩:=some_at hlt;have hvo:=ho v (List.mem_of_getElem? hv);rw [drop_at hv] at hcg ⊢;rw [clearG] at hcg ⊢;have hgk:(i64C o)[(k:Int).toNat*1]? = some (.int .i64 v):=by rw [show (k:Int).toNat*1=k by omega];exact i64C_get hv
  refine w_use (fun w hw=>(hw.pick 2 rfl).rng_some (by omega)) ?_;rintro ⟨g2,rfl⟩;by_cases hv0:0≤v
  ·obtain ⟨j,rfl⟩:∃ j:Nat,v=(j:Int):=⟨v.toNat,by omega⟩
   have hjl:j<l.length:=by omega
   obtain ⟨ej,hej⟩:=some_at hjl;have hgd:l.getD ((j:Int)).toNat nopI=ej:=by rw [Int.toNat_natCast];simp [List.getD,hej]
   rw [hgd] at hcg ⊢;have hfb:=farF_le ej last;have hfc:=farC ej last;unfold inG at hfc;have hejA:((insC l).drop ((j:Int).toNat*5)).take 5=[.int .i64 ej.op,.int .i64 ej.a,.int .i64 ej.b,.int .i64 ej.c,.int .i64 ej.imm]:=insC_all hej _ (by omega);have hejL:=insC_len l;refine w_use (fun w hw=>(hw.pick 1 rfl).rng_some (by omega)) ?_;rintro ⟨g1,rfl⟩;refine rr ?_;refine dr [0,1,2,3,4,5,6,7,8,11,9,10,12,13] [7,8] [0,1] ?_;refine rr ?_;refine cle (hfc) ?_;intro _ _;try simp only [Sx.ap1,Sx.ap2,Sx.ap3]
   generalize farF ej last=f at *;by_cases hpf:p<(k:Int)+f
   ·rw [if_pos ⟨hv0,hpf⟩];refine rr ?_;exact en () trivial
   ·rw [if_neg (fun h=>hpf h.2)] at hcg ⊢;refine rr ?_;exact ro hK1 (k+1) ⟨hlt,hcg⟩
  ·rw [if_neg (fun h=>hv0 h.1)] at hcg ⊢;refine rr ?_;refine dr [0,1,2,3,4,5,6,7,8,11,9,10,12,13] [7,8] [0,1] ?_;refine rr ?_;exact ro hK1 (k+1) ⟨hlt,hcg⟩
 ·obtain rfl:k=o.length:=by omega
  rw [List.drop_length];refine rr ?_;exact en () trivial
theorem pickF_len (l:List In) (o:List Int):(pickF l o).length=o.length:=by unfold pickF;simp
theorem pickF_snoc {l:List In} {o:List Int} {k:Nat} {v:Int} (h:o[k]? = some v):pickF l (o.take (k+1))=pickF l (o.take k)++[if 0≤v∧v<(l.length:Int) then l.getD v.toNat nopI else nopI]:=by
 unfold pickF;rw [List.take_add_one,h];simp
theorem insC_snoc (l:List In) (e:In):insC (l++[e])=insC l++inV e:=by unfold insC;simp
theorem pickC (la:Option Addr) (lc:Nat) (l:List In) (oa:Option Addr) (oc:Nat) (o:List Int) (hl:l.length≤4096) (hol:o.length≤20000):FnC Tryz.prog 85 [.slice la l.length lc,.slice oa o.length oc] [] [rng la (insC l),rng oa (i64C o)] (fun z:Option Addr×Nat=>.slice z.1 o.length z.2) (fun z=>[row z.1 z.2 105 5 o.length (insC (pickF l o))]) (fun _=>True):=by
 have hcl:=insC_len l;have hco:=i64C_len o;refine fn_intro Tryz.func85 Tryz.ntmps85 rfl rfl rfl (fun w0=>?_);refine rrs ?_;refine hv [row none 0 105 5 0 (insC (pickF l (o.take 0))),rng la (insC l),rng oa (i64C o)] ?_;refine lo [0,9,10] (fun x:Nat×Option Addr×Nat=>[(5,.slice x.2.1 x.1 x.2.2),(11,.int .i64 (x.1:Int))]) (fun x=>[(0,row x.2.1 x.2.2 105 5 x.1 (insC (pickF l (o.take x.1))))]) (fun x=>x.1≤o.length) (fun x=>o.length-x.1) (0,none,0) (Nat.zero_le _) ?_;rintro ⟨k,xa,xc⟩ hk K1 hK1;try dsimp only at hk ⊢
 by_cases hlt:k<o.length
 ·obtain ⟨v,hvk⟩:=some_at hlt;have hsn:=pickF_snoc (l:=l) hvk;have hgk:(i64C o)[(k:Int).toNat*1]? = some (.int .i64 v):=by rw [show (k:Int).toNat*1=k by omega];exact i64C_get hvk
  have hpl:(insC (pickF l (o.take k))).length=k*5:=by rw [insC_len,pickF_len,List.length_take];omega
  refine w_use (fun w hw=>(hw.pick 2 rfl).rng_some (by omega)) ?_;rintro ⟨g2,rfl⟩;by_cases hv0:0≤v∧v<(l.length:Int)
  ·rw [if_pos hv0] at hsn;obtain ⟨hva,hvb⟩:=hv0;obtain ⟨j,rfl⟩:∃ j:Nat,v=(j:Int):=⟨v.toNat,by omega⟩
   have hjl:j<l.length:=by omega
   obtain ⟨ej,hej⟩:=some_at hjl;rw [show l.getD ((j:Int)).toNat nopI=ej by rw [Int.toNat_natCast];simp [List.getD,hej]] at hsn;have hejA:((insC l).drop ((j:Int).toNat*5)).take 5=[.int .i64 ej.op,.int .i64 ej.a,.int .i64 ej.b,.int .i64 ej.c,.int .i64 ej.imm]:=insC_all hej _ (by omega);have hejL:=insC_len l;refine w_use (fun w hw=>(hw.pick 1 rfl).rng_some (by omega)) ?_;rintro ⟨g1,rfl⟩;refine rr ?_;intro b8 _;refine rr ?_;intro b9 _;refine rr ?_;rintro ⟨pa,pc⟩ ⟨ph,_⟩;refine rr ?_;rw [show insC (pickF l (o.take k))++[Value.int .i64 ej.op,.int .i64 ej.a,.int .i64 ej.b,.int .i64 ej.c,.int .i64 ej.imm]=insC (pickF l (o.take (k+1))) by rw [hsn,insC_snoc];rfl];exact ro hK1 (k+1,pa,pc) (by dsimp only;omega)
  ·rw [if_neg hv0] at hsn;have hnp:insC (pickF l (o.take k))++[Value.int .i64 0,.int .i64 0,.int .i64 0,.int .i64 0,.int .i64 0]=insC (pickF l (o.take (k+1))):=by rw [hsn,insC_snoc];rfl
   by_cases hva:0≤v
   ·have hvb:¬ v<(l.length:Int):=fun h=>hv0 ⟨hva,h⟩
    refine rr ?_;intro b8 _;refine rr ?_;intro b9 _;refine rr ?_;rintro ⟨pa,pc⟩ ⟨ph,_⟩;refine rr ?_;refine hv [row pa pc 105 5 (k+1) (insC (pickF l (o.take k))++[Value.int .i64 0,.int .i64 0,.int .i64 0,.int .i64 0,.int .i64 0]),rng la (insC l),rng (some g2) (i64C o)] ?_;rw [hnp];exact ro hK1 (k+1,pa,pc) (by dsimp only;omega)
   ·skip
    refine rr ?_;intro b8 _;refine rr ?_;intro b9 _;refine rr ?_;rintro ⟨pa,pc⟩ ⟨ph,_⟩;refine rr ?_;refine hv [row pa pc 105 5 (k+1) (insC (pickF l (o.take k))++[Value.int .i64 0,.int .i64 0,.int .i64 0,.int .i64 0,.int .i64 0]),rng la (insC l),rng (some g2) (i64C o)] ?_;rw [hnp];exact ro hK1 (k+1,pa,pc) (by dsimp only;omega)
 ·obtain rfl:k=o.length:=by omega
  rw [List.take_length];refine rr ?_;exact en (xa,xc) trivial
theorem insC_take (l:List In) (k:Nat):insC (l.take k)=(insC l).take (k*5):=by
 induction l generalizing k with
 | nil=>simp [insC]
 | cons a l ih=>
  cases k with
  | zero=>simp [insC]
  | succ k=>
   have h1:insC (a::l)=inV a++insC l:=rfl;have h2:insC (a::l.take k)=inV a++insC (l.take k):=rfl;rw [List.take_succ_cons,h2,h1,ih,show (k+1)*5=(inV a).length+k*5 by simp [inV];omega,List.take_length_add_append]
theorem getD_last (o:List Int) (b d:Int):(o++[b]).getD ((o++[b]).length-1) d=b:=by
 rw [List.length_append,List.length_singleton,Nat.add_sub_cancel,List.getD_eq_getElem?_getD,List.getElem?_append_right (Nat.le_refl _),Nat.sub_self];rfl
theorem clearG_snoc (l:List In) (last:In) (p:Int):∀ (o:List Int) (k:Nat),((k:Int)+(o.length:Int)+1≤p)→clearG l last p k (o++[-1])=true
 | [],k,_=>by
  rw [List.nil_append,clearG,if_neg (by omega)];rfl
 | n::o,k,h=>by
  have hf:=farF_le (l.getD n.toNat nopI) last;rw [List.cons_append,clearG,if_neg (by simp only [List.length_cons] at h;omega)];exact clearG_snoc l last p o (k+1) (by simp only [List.length_cons] at h;omega)
theorem layFallC (la:Option Addr) (lc:Nat) (l:List In) (hl:l.length≤4096) (hl0:l≠[]) (last:In) (hlast:l[l.length-1]? = some last) (hg:goesF last=false):FnC Tryz.prog 84 [.slice la l.length lc] [] [rng la (insC l)] (fun z:Option Addr×Nat=>.slice z.1 (layF l).length z.2) (fun z=>[row z.1 z.2 3 1 (layF l).length (i64C (layF l))]) (fun _=>True):=by
 have hcl:=insC_len l;have hlp:0<l.length:=List.length_pos_iff.2 hl0;have hlp2:¬ ((l.length:Int)=0):=by omega
 have hor:=orderC la lc l hl;have holn:=orderF_len l;obtain ⟨o,b,hob,hbl⟩:=orderF_spec l hl0;obtain ⟨eb,heb⟩:=some_at hbl;have hgo:=goesEC last;have hla:=lateEC eb
 have e1:layF l=if lateF eb then o++[(b:Int)]++[-1] else o++[(b:Int)]:=by
  unfold layF;rw [if_neg hl0];dsimp only;rw [show l.getD (l.length-1) nopI=last by simp [List.getD,hlast],hg,if_neg (by simp),hob,getD_last,show l.getD ((b:Int)).toNat nopI=eb by rw [Int.toNat_natCast];simp [List.getD,heb],decide_eq_true (show (0:Int)≤(b:Int) by omega),Bool.true_and]
 rw [e1];rw [hob] at hor holn;rw [hg] at hgo;have hol:(o++[(b:Int)]).length=o.length+1:=by simp
 have hgb:(i64C (o++[(b:Int)]))[0+((o.length+1:Nat):Int).toNat*1-1*1]? = some (.int .i64 (b:Int)):=by
  rw [show 0+((o.length+1:Nat):Int).toNat*1-1*1=o.length by omega];refine i64C_get ?_;rw [List.getElem?_append_right (Nat.le_refl _),Nat.sub_self];rfl
 have hgb2:(i64C (o++[(b:Int)]))[0+(((o.length+1:Nat):Int)-1).toNat*1]? = some (.int .i64 (b:Int)):=by
  rw [show 0+(((o.length+1:Nat):Int)-1).toNat*1=o.length by omega];refine i64C_get ?_;rw [List.getElem?_append_right (Nat.le_refl _),Nat.sub_self];rfl
 have hol2:=i64C_len (o++[(b:Int)]);rw [hol] at hor hol2 holn;generalize hL:o++[(b:Int)]=oo at *;have hlm:((l.length:Int)-1).toNat=l.length-1:=by omega
 have hebA:((insC l).drop ((b:Int).toNat*5)).take 5=[.int .i64 eb.op,.int .i64 eb.a,.int .i64 eb.b,.int .i64 eb.c,.int .i64 eb.imm]:=insC_all heb _ (by omega);have hebL:=insC_len l;have hlastA:((insC l).drop (((l.length:Int)-1).toNat*5)).take 5=[.int .i64 last.op,.int .i64 last.a,.int .i64 last.b,.int .i64 last.c,.int .i64 last.imm]:=insC_all hlast _ (by omega);unfold inG at *;refine fn_intro Tryz.func84 Tryz.ntmps84 rfl rfl rfl (fun w0=>?_);try simp only [Sx.ap1,Sx.ap2,Sx.ap3]
 refine w_use (fun w hw=>(hw.pick 0 rfl).rng_some (by omega)) ?_;rintro ⟨g1,rfl⟩;refine rr ?_;intro b4 _;refine rr ?_;refine cl (hgo) ?_;intro _ _;refine rrs ?_;refine cl (hor) ?_;intro ⟨za,zc⟩ _;try simp only [Sx.ap1,Sx.ap2,Sx.ap3]
 refine w_use (fun w hw=>(hw.pick 0 rfl).row_some (by first | omega | decide | (simp;done) | (simp <;> omega))) ?_;rintro ⟨g2,rfl⟩;refine rr ?_;refine cl (hla) ?_;intro _ _;try simp only [Sx.ap1,Sx.ap2,Sx.ap3]
 cases hq:lateF eb with
 | true=>
  rw [if_pos rfl];refine rr ?_;intro b9 _;refine rr ?_;rintro ⟨pa,pc⟩ ⟨ph,_⟩;refine rr ?_;rw [← i64C_snoc,show o.length+1+1=(oo++[(-1:Int)]).length by rw [List.length_append,← hol,← hL];simp];exact en (pa,pc) trivial
 | false=>
  rw [if_neg (by simp)];refine rr ?_;rw [← hol];exact en (some ⟨g2,0,none⟩,zc) trivial
def padX (o:List Int) (n:Nat):List Int:=if n=0 then o else o++[-1]
theorem i64C_two (o:List Int) (a b:Int):i64C (o++[a,b])=i64C o++[Value.int .i64 a,Value.int .i64 b]:=by simp [i64C]
theorem layGoesC (la:Option Addr) (lc:Nat) (l:List In) (hlc:l.length≤lc) (hl:l.length≤4096) (hl0:l≠[]) (last:In) (hlast:l[l.length-1]? = some last) (hg:goesF last=true):FnC Tryz.prog 84 [.slice la l.length lc] [] [rng la (insC l)] (fun z:Option Addr×Nat=>.slice z.1 (layF l).length z.2) (fun z=>[row z.1 z.2 3 1 (layF l).length (i64C (layF l))]) (fun _=>True):=by
 have hcl:=insC_len l;have hlp:0<l.length:=List.length_pos_iff.2 hl0;have hlp2:¬ ((l.length:Int)=0):=by omega
 have hgo:=goesEC last;rw [hg] at hgo;have htl:(l.take (l.length-1)).length=l.length-1:=by rw [List.length_take];omega
 have hor:=fun a=>orderC a lc (l.take (l.length-1)) (by omega)
 have holn:=orderF_len (l.take (l.length-1));have hom:=orderF_mem (l.take (l.length-1));have hsp:=fun h=>orderF_spec (l.take (l.length-1)) h
 rw [htl] at hor holn hom
 have e0:layF l=(if decide (orderF (l.take (l.length-1))≠[]) && !lateF (l.getD ((orderF (l.take (l.length-1))).getD ((orderF (l.take (l.length-1))).length-1) 0).toNat nopI) && decide (farF (l.getD ((orderF (l.take (l.length-1))).getD ((orderF (l.take (l.length-1))).length-1) 0).toNat nopI) last=0) && clearF l ((orderF (l.take (l.length-1))).take ((orderF (l.take (l.length-1))).length-1)) last (((orderF (l.take (l.length-1))).length-1:Nat):Int) then (orderF (l.take (l.length-1))).take ((orderF (l.take (l.length-1))).length-1)++[((l.length-1:Nat):Int),(orderF (l.take (l.length-1))).getD ((orderF (l.take (l.length-1))).length-1) 0] else padG l (orderF (l.take (l.length-1))) last++[((l.length-1:Nat):Int),-1]):=by
  unfold layF;rw [if_neg hl0];dsimp only;rw [show l.getD (l.length-1) nopI=last by simp [List.getD,hlast],hg,if_pos rfl]
 rw [e0];have hlm2:((l.length-1:Nat):Int)=(l.length:Int)-1:=by omega
 have hlastA:((insC l).drop (((l.length:Int)-1).toNat*5)).take 5=[.int .i64 last.op,.int .i64 last.a,.int .i64 last.b,.int .i64 last.c,.int .i64 last.imm]:=insC_all hlast _ (by omega);have hpk:insC (l.take (l.length-1))=(insC l).take ((l.length-1)*5):=insC_take l _
 have hte:l.length-1=0∨l.take (l.length-1)≠[]:=by
  by_cases h:l.length-1=0
  ·exact .inl h
  ·right;intro hc;rw [hc] at htl;simp at htl;omega
 have he0:l.length-1=0→orderF (l.take (l.length-1))=[]:=fun h=>by rw [h,List.take_zero];rfl
 generalize horf:orderF (l.take (l.length-1))=oo at *
 have hpxl:∀ n,(padX oo n).length≤10000:=fun n=>by
  unfold padX;split
  ·omega
  ·rw [List.length_append,List.length_singleton];omega
 have hpxm:∀ n,∀ x∈padX oo n,x = -1∨(0≤x∧x<l.length):=fun n x hx=>by
  unfold padX at hx;split at hx
  ·have:=hom x hx;omega
  ·rcases List.mem_append.1 hx with hx | hx
   ·have:=hom x hx;omega
   ·left;simpa using hx
 have hoc:=i64C_len oo;unfold inG at hgo;refine fn_intro Tryz.func84 Tryz.ntmps84 rfl rfl rfl (fun w0=>?_);try simp only [Sx.ap1,Sx.ap2,Sx.ap3]
 refine w_use (fun w hw=>(hw.pick 0 rfl).rng_some (by omega)) ?_;rintro ⟨g0,rfl⟩;refine rr ?_;intro b4 _;refine rr ?_;refine cl (hgo) ?_;intro _ _;refine rrs ?_;refine w_turn (fun w hw=>hw.look (c:=rng (some g0) (insC (l.take (l.length-1)))) rfl (by rw [hpk];exact (rng_take _).one (prov_mem (List.mem_filter.2 ⟨nthC_mem (i:=1) rfl,rfl⟩)))) ?_;rw [show ((l.length:Int)-1).toNat=l.length-1 by omega];refine cl (hor (some g0)) ?_;intro ⟨za,zc⟩ _;try simp only [Sx.ap1,Sx.ap2,Sx.ap3]
 refine hv [row za zc 3 1 oo.length (i64C oo),blk b4 [.int .i64 last.op,.int .i64 last.a,.int .i64 last.b,.int .i64 last.c,.int .i64 last.imm] 105,rng (some g0) (insC l)] ?_;rcases hte with hz | hz
 ·have hoe:=he0 hz;have hol0:oo.length=0:=by rw [hoe];rfl
  rw [if_neg (by rw [hoe];simp)];refine rr ?_;have hcx:=fun n xa xc=>clearC (some g0) lc l xa xc (padX oo n) last ((padX oo n).length:Int) hl (by have:=hpxl n;omega) (hpxm n) ⟨by omega,by have:=hpxl n;omega⟩
  unfold inG at hcx;refine lo [0,3,4] (fun x:Nat×Option Addr×Nat=>[(7,.slice x.2.1 (padX oo x.1).length x.2.2)]) (fun x=>[(0,row x.2.1 x.2.2 3 1 (padX oo x.1).length (i64C (padX oo x.1)))]) (fun x=>x.1=0∨(x.1=1∧clearF l oo last (oo.length:Int)=false)) (fun x=>1-x.1) (0,za,zc) (.inl rfl) ?_;rintro ⟨n,xa,xc⟩ hx K1 hK1;try dsimp only at hx ⊢
  have hn:=hpxl n;refine rr ?_;refine cl (hcx n xa xc) ?_;intro _ _;try simp only [Sx.ap1,Sx.ap2,Sx.ap3]
  rcases hx with rfl | ⟨rfl,hcf⟩
  ·rw [show padX oo 0=oo from rfl] at *;cases hq:clearF l oo last (oo.length:Int) with
   | true=>
    have hpg:padG l oo last=oo:=by unfold padG;rw [hq,if_pos rfl]
    rw [hpg];refine rr ?_;intro b20 _;refine rr ?_;rintro ⟨pa,pc⟩ ⟨ph,_⟩;refine rr ?_;rw [show i64C oo++[Value.int .i64 ((l.length:Int)-1),Value.int .i64 (-1)]=i64C (oo++[((l.length-1:Nat):Int),-1]) by rw [i64C_two,hlm2],show oo.length+2=(oo++[((l.length-1:Nat):Int),-1]).length by simp];exact en (pa,pc) trivial
   | false=>
    refine rr ?_;intro b20 _;refine rr ?_;rintro ⟨pa,pc⟩ ⟨ph,_⟩;refine rr ?_;rw [← i64C_snoc,show oo.length+1=(padX oo 1).length by unfold padX;simp];exact ro hK1 (1,pa,pc) (.inr ⟨rfl,hq⟩)
  ·have hct:clearF l (padX oo 1) last ((padX oo 1).length:Int)=true:=by
    have:padX oo 1=oo++[-1]:=rfl;rw [this];unfold clearF;exact clearG_snoc l last _ oo 0 (by simp)
   have hpg:padG l oo last=padX oo 1:=by unfold padG;rw [hcf,if_neg (by simp)];rfl
   rw [hpg,hct];generalize padX oo 1=pp at *;refine rr ?_;intro b20 _;refine rr ?_;rintro ⟨pa,pc⟩ ⟨ph,_⟩;refine rr ?_;rw [show i64C pp++[Value.int .i64 ((l.length:Int)-1),Value.int .i64 (-1)]=i64C (pp++[((l.length-1:Nat):Int),-1]) by rw [i64C_two,hlm2],show pp.length+2=(pp++[((l.length-1:Nat):Int),-1]).length by simp];exact en (pa,pc) trivial
 ·obtain ⟨o,b,hob,hbl⟩:=hsp hz;rw [htl] at hbl;have hol:oo.length=o.length+1:=by rw [hob];simp
  obtain ⟨eb,heb⟩:=some_at (l:=l) (k:=b) (by omega)
  have hcond:(decide (oo≠[]) && !lateF (l.getD (oo.getD (oo.length-1) 0).toNat nopI) && decide (farF (l.getD (oo.getD (oo.length-1) 0).toNat nopI) last=0) && clearF l (oo.take (oo.length-1)) last ((oo.length-1:Nat):Int))=(!lateF eb && decide (farF eb last=0) && clearF l o last (o.length:Int)):=by
   have h1:oo.getD (oo.length-1) 0=(b:Int):=by rw [hob];exact getD_last o _ _
   have h2:oo.take (oo.length-1)=o:=by rw [hob];simp
   rw [h1,h2,show l.getD ((b:Int)).toNat nopI=eb by rw [Int.toNat_natCast];simp [List.getD,heb],decide_eq_true (show oo≠[] by rw [hob];simp),Bool.true_and,show oo.length-1=o.length by omega]
  rw [hcond];have hoo1:oo.take (oo.length-1)=o:=by rw [hob];simp
  have hoo2:oo.getD (oo.length-1) 0=(b:Int):=by rw [hob];exact getD_last o _ _
  rw [hoo1,hoo2]
  have hgb:(i64C oo)[0+((oo.length:Int)-1).toNat*1]? = some (.int .i64 (b:Int)):=by
   rw [show 0+((oo.length:Int)-1).toNat*1=o.length by omega];refine i64C_get ?_;rw [hob,List.getElem?_append_right (Nat.le_refl _),Nat.sub_self];rfl
  have hla:=lateEC eb;have hfa:=farC eb last;have hom2:∀ x∈o,x = -1∨(0≤x∧x<l.length):=fun x hx=>by have:=hom x (by rw [hob];simp [hx]);omega
  have hpp:(o.length:Int)=(oo.length:Int)-1:=by omega
  have hcl2:=fun xa xc=>clearC (some g0) lc l xa xc o last ((oo.length:Int)-1) hl (by omega) hom2 ⟨by omega,by omega⟩
  rw [hpp];have hio:i64C o=(i64C oo).take o.length:=by rw [hob];unfold i64C;rw [List.map_append,List.take_left' (by simp)]
  have hcn:=cloneIC;have hebA:((insC l).drop ((b:Int).toNat*5)).take 5=[.int .i64 eb.op,.int .i64 eb.a,.int .i64 eb.b,.int .i64 eb.c,.int .i64 eb.imm]:=insC_all heb _ (by omega);have hebL:=insC_len l;unfold inG at hla hfa hcl2;refine w_use (fun w hw=>(hw.pick 0 rfl).row_cap) fun hcap=>?_
  refine w_use (fun w hw=>(hw.pick 0 rfl).row_some (by first | omega | decide | (simp;done) | (simp <;> omega))) ?_;rintro ⟨g2,rfl⟩;refine rr ?_;intro b9 _;refine rr ?_;refine dx [0,1,2,3,4,5,6,7,8,9,10,11,12,13,14,15,16,17] [0,4,5,14] [] ?_;refine rr ?_;refine cld (hla) ?_;intro _ _;try simp only [Sx.ap1,Sx.ap2,Sx.ap3]
  cases hq1:lateF eb with
  | true=>
   rw [if_neg (by simp)];refine rr ?_;have hcx:=fun n xa xc=>clearC (some g0) lc l xa xc (padX oo n) last ((padX oo n).length:Int) hl (by have:=hpxl n;omega) (hpxm n) ⟨by omega,by have:=hpxl n;omega⟩
   unfold inG at hcx;refine lo [0,3,4] (fun x:Nat×Option Addr×Nat=>[(7,.slice x.2.1 (padX oo x.1).length x.2.2)]) (fun x=>[(1,row x.2.1 x.2.2 3 1 (padX oo x.1).length (i64C (padX oo x.1)))]) (fun x=>x.1=0∨(x.1=1∧clearF l oo last (oo.length:Int)=false)) (fun x=>1-x.1) (0,(some ⟨g2,0,none⟩),zc) (.inl rfl) ?_;rintro ⟨n,xa,xc⟩ hx K1 hK1;try dsimp only at hx ⊢
   have hn:=hpxl n;refine rr ?_;refine cl (hcx n xa xc) ?_;intro _ _;try simp only [Sx.ap1,Sx.ap2,Sx.ap3]
   rcases hx with rfl | ⟨rfl,hcf⟩
   ·rw [show padX oo 0=oo from rfl] at *;cases hq:clearF l oo last (oo.length:Int) with
    | true=>
     have hpg:padG l oo last=oo:=by unfold padG;rw [hq,if_pos rfl]
     rw [hpg];refine rr ?_;intro b20 _;refine rr ?_;rintro ⟨pa,pc⟩ ⟨ph,_⟩;refine rr ?_;rw [show i64C oo++[Value.int .i64 ((l.length:Int)-1),Value.int .i64 (-1)]=i64C (oo++[((l.length-1:Nat):Int),-1]) by rw [i64C_two,hlm2],show oo.length+2=(oo++[((l.length-1:Nat):Int),-1]).length by simp];exact en (pa,pc) trivial
    | false=>
     refine rr ?_;intro b20 _;refine rr ?_;rintro ⟨pa,pc⟩ ⟨ph,_⟩;refine rr ?_;rw [← i64C_snoc,show oo.length+1=(padX oo 1).length by unfold padX;simp];exact ro hK1 (1,pa,pc) (.inr ⟨rfl,hq⟩)
   ·have hct:clearF l (padX oo 1) last ((padX oo 1).length:Int)=true:=by
     have:padX oo 1=oo++[-1]:=rfl;rw [this];unfold clearF;exact clearG_snoc l last _ oo 0 (by simp)
    have hpg:padG l oo last=padX oo 1:=by unfold padG;rw [hcf,if_neg (by simp)];rfl
    rw [hpg,hct];generalize padX oo 1=pp at *;refine rr ?_;intro b20 _;refine rr ?_;rintro ⟨pa,pc⟩ ⟨ph,_⟩;refine rr ?_;rw [show i64C pp++[Value.int .i64 ((l.length:Int)-1),Value.int .i64 (-1)]=i64C (pp++[((l.length-1:Nat):Int),-1]) by rw [i64C_two,hlm2],show pp.length+2=(pp++[((l.length-1:Nat):Int),-1]).length by simp];exact en (pa,pc) trivial
  | false=>
   refine rr ?_;refine cld (hfa) ?_;intro _ _;try simp only [Sx.ap1,Sx.ap2,Sx.ap3]
   by_cases hf0:farF eb last=0
   ·rw [decide_eq_true hf0];refine rr ?_;rw [show ((oo.length:Int)-1).toNat=o.length by omega];refine cld (hcl2 (some ⟨g2,0,none⟩) zc) (hl:=lend_cons (k:=3) rfl rfl (lend_prov rfl (by rw [hio];exact (rng_take _).one (row_rng.one (prov_mem (nthC_mem (i:=1) rfl)))) trivial)) ?_;intro _ _;try simp only [Sx.ap1,Sx.ap2,Sx.ap3]
    cases hq2:clearF l o last ((oo.length:Int)-1) with
    | true=>
     rw [if_pos (by simp)];refine rr ?_;refine dx [0,1,2,4,5,6,7,8,99] [8] [] ?_;refine rr ?_;rw [show ((oo.length:Int)-1).toNat=o.length by omega];refine tw (i:=3) (j:=9) [9,10,11] [3,10,11] ?_ ?_
     ·refine clp (hcn (some ⟨g2,0,none⟩) zc o (by omega)) (hl:=lend_prov rfl (by rw [hio];exact (rng_take _).one (row_rng.one (prov_mem (nthC_mem (i:=1) rfl)))) trivial) ?_;intro ⟨ya,yc⟩ _;refine rrs ?_;intro b20 _;refine rr ?_;rintro ⟨pa,pc⟩ ⟨ph,_⟩;refine rr ?_;rw [show i64C o++[Value.int .i64 ((l.length:Int)-1),Value.int .i64 (b:Int)]=i64C (o++[((l.length-1:Nat):Int),(b:Int)]) by rw [i64C_two,hlm2],show o.length+2=(o++[((l.length-1:Nat):Int),(b:Int)]).length by simp];exact en (pa,pc) trivial
     ·skip
      refine rr ?_;intro b20 _;refine rr ?_;refine cld (hcn (some ⟨g2,0,none⟩) zc o (by omega)) (hl:=lend_prov rfl (by rw [hio];exact (rng_take _).one (row_rng.one (prov_mem (nthC_mem (i:=2) rfl)))) trivial) ?_;intro ⟨ya,yc⟩ _;refine rrs ?_;rintro ⟨pa,pc⟩ ⟨ph,_⟩;refine rr ?_;rw [show i64C o++[Value.int .i64 ((l.length:Int)-1),Value.int .i64 (b:Int)]=i64C (o++[((l.length-1:Nat):Int),(b:Int)]) by rw [i64C_two,hlm2],show o.length+2=(o++[((l.length-1:Nat):Int),(b:Int)]).length by simp];exact en (pa,pc) trivial
    | false=>
     rw [if_neg (by simp)];refine rr ?_;have hcx:=fun n xa xc=>clearC (some g0) lc l xa xc (padX oo n) last ((padX oo n).length:Int) hl (by have:=hpxl n;omega) (hpxm n) ⟨by omega,by have:=hpxl n;omega⟩
     unfold inG at hcx;refine lo [0,3,4] (fun x:Nat×Option Addr×Nat=>[(7,.slice x.2.1 (padX oo x.1).length x.2.2)]) (fun x=>[(1,row x.2.1 x.2.2 3 1 (padX oo x.1).length (i64C (padX oo x.1)))]) (fun x=>x.1=0∨(x.1=1∧clearF l oo last (oo.length:Int)=false)) (fun x=>1-x.1) (0,(some ⟨g2,0,none⟩),zc) (.inl rfl) ?_;rintro ⟨n,xa,xc⟩ hx K1 hK1;try dsimp only at hx ⊢
     have hn:=hpxl n;refine rr ?_;refine cl (hcx n xa xc) ?_;intro _ _;try simp only [Sx.ap1,Sx.ap2,Sx.ap3]
     rcases hx with rfl | ⟨rfl,hcf⟩
     ·rw [show padX oo 0=oo from rfl] at *;cases hq:clearF l oo last (oo.length:Int) with
      | true=>
       have hpg:padG l oo last=oo:=by unfold padG;rw [hq,if_pos rfl]
       rw [hpg];refine rr ?_;intro b20 _;refine rr ?_;rintro ⟨pa,pc⟩ ⟨ph,_⟩;refine rr ?_;rw [show i64C oo++[Value.int .i64 ((l.length:Int)-1),Value.int .i64 (-1)]=i64C (oo++[((l.length-1:Nat):Int),-1]) by rw [i64C_two,hlm2],show oo.length+2=(oo++[((l.length-1:Nat):Int),-1]).length by simp];exact en (pa,pc) trivial
      | false=>
       refine rr ?_;intro b20 _;refine rr ?_;rintro ⟨pa,pc⟩ ⟨ph,_⟩;refine rr ?_;rw [← i64C_snoc,show oo.length+1=(padX oo 1).length by unfold padX;simp];exact ro hK1 (1,pa,pc) (.inr ⟨rfl,hq⟩)
     ·have hct:clearF l (padX oo 1) last ((padX oo 1).length:Int)=true:=by
       have:padX oo 1=oo++[-1]:=rfl;rw [this];unfold clearF;exact clearG_snoc l last _ oo 0 (by simp)
      have hpg:padG l oo last=padX oo 1:=by unfold padG;rw [hcf,if_neg (by simp)];rfl
      rw [hpg,hct];generalize padX oo 1=pp at *;refine rr ?_;intro b20 _;refine rr ?_;rintro ⟨pa,pc⟩ ⟨ph,_⟩;refine rr ?_;rw [show i64C pp++[Value.int .i64 ((l.length:Int)-1),Value.int .i64 (-1)]=i64C (pp++[((l.length-1:Nat):Int),-1]) by rw [i64C_two,hlm2],show pp.length+2=(pp++[((l.length-1:Nat):Int),-1]).length by simp];exact en (pa,pc) trivial
   ·rw [decide_eq_false hf0,if_neg (by simp)];refine rr ?_;have hcx:=fun n xa xc=>clearC (some g0) lc l xa xc (padX oo n) last ((padX oo n).length:Int) hl (by have:=hpxl n;omega) (hpxm n) ⟨by omega,by have:=hpxl n;omega⟩
    unfold inG at hcx;refine lo [0,3,4] (fun x:Nat×Option Addr×Nat=>[(7,.slice x.2.1 (padX oo x.1).length x.2.2)]) (fun x=>[(1,row x.2.1 x.2.2 3 1 (padX oo x.1).length (i64C (padX oo x.1)))]) (fun x=>x.1=0∨(x.1=1∧clearF l oo last (oo.length:Int)=false)) (fun x=>1-x.1) (0,(some ⟨g2,0,none⟩),zc) (.inl rfl) ?_;rintro ⟨n,xa,xc⟩ hx K1 hK1;try dsimp only at hx ⊢
    have hn:=hpxl n;refine rr ?_;refine cl (hcx n xa xc) ?_;intro _ _;try simp only [Sx.ap1,Sx.ap2,Sx.ap3]
    rcases hx with rfl | ⟨rfl,hcf⟩
    ·rw [show padX oo 0=oo from rfl] at *;cases hq:clearF l oo last (oo.length:Int) with
     | true=>
      have hpg:padG l oo last=oo:=by unfold padG;rw [hq,if_pos rfl]
      rw [hpg];refine rr ?_;intro b20 _;refine rr ?_;rintro ⟨pa,pc⟩ ⟨ph,_⟩;refine rr ?_;rw [show i64C oo++[Value.int .i64 ((l.length:Int)-1),Value.int .i64 (-1)]=i64C (oo++[((l.length-1:Nat):Int),-1]) by rw [i64C_two,hlm2],show oo.length+2=(oo++[((l.length-1:Nat):Int),-1]).length by simp];exact en (pa,pc) trivial
     | false=>
      refine rr ?_;intro b20 _;refine rr ?_;rintro ⟨pa,pc⟩ ⟨ph,_⟩;refine rr ?_;rw [← i64C_snoc,show oo.length+1=(padX oo 1).length by unfold padX;simp];exact ro hK1 (1,pa,pc) (.inr ⟨rfl,hq⟩)
    ·have hct:clearF l (padX oo 1) last ((padX oo 1).length:Int)=true:=by
      have:padX oo 1=oo++[-1]:=rfl;rw [this];unfold clearF;exact clearG_snoc l last _ oo 0 (by simp)
     have hpg:padG l oo last=padX oo 1:=by unfold padG;rw [hcf,if_neg (by simp)];rfl
     rw [hpg,hct];generalize padX oo 1=pp at *;refine rr ?_;intro b20 _;refine rr ?_;rintro ⟨pa,pc⟩ ⟨ph,_⟩;refine rr ?_;rw [show i64C pp++[Value.int .i64 ((l.length:Int)-1),Value.int .i64 (-1)]=i64C (pp++[((l.length-1:Nat):Int),-1]) by rw [i64C_two,hlm2],show pp.length+2=(pp++[((l.length-1:Nat):Int),-1]).length by simp];exact en (pa,pc) trivial
theorem layF_nil:layF []=[]:=rfl
theorem layC (la:Option Addr) (lc:Nat) (l:List In) (hlc:l.length≤lc) (hl:l.length≤4096):FnC Tryz.prog 84 [.slice la l.length lc] [] [rng la (insC l)] (fun z:Option Addr×Nat=>.slice z.1 (layF l).length z.2) (fun z=>[row z.1 z.2 3 1 (layF l).length (i64C (layF l))]) (fun _=>True):=by
 by_cases hl0:l=[]
 ·subst hl0;rw [layF_nil];refine fn_intro Tryz.func84 Tryz.ntmps84 rfl rfl rfl (fun w0=>?_);refine rrs ?_;exact en (none,0) trivial
 ·have hlp:0<l.length:=List.length_pos_iff.2 hl0;obtain ⟨last,hlast⟩:=some_at (l:=l) (k:=l.length-1) (by omega);cases hg:goesF last with
  | true=>exact layGoesC la lc l hlc hl hl0 last hlast hg
  | false=>exact layFallC la lc l hl hl0 last hlast hg
theorem good_imm {i:In} (h:goodI i=true) (ho:i.op=15∨i.op=16) : -32768≤i.imm∧i.imm≤32767:=by
 unfold goodI at h;simp only [Bool.and_eq_true,Bool.or_eq_true,decide_eq_true_eq] at h;rcases h.2 with h0 | ⟨_,h1⟩
 ·omega
 ·unfold numI at h1;rw [if_neg (by omega),if_neg (by omega),if_neg (by omega)] at h1;unfold fits16 at h1;simp only [decide_eq_true_eq] at h1;omega
theorem targetC (i:In) (p:Int) (hp:0≤p∧p≤100000):FnC (α:=Unit) Tryz.prog 40 [inG i,.int .i64 p] [] [] (fun _=>.tuple #[.int .i64 ((targetF i p).getD 0),.bool (targetF i p).isSome]) (fun _=>[]) (fun _=>True):=by
 have hr:=rightIC i;unfold targetF;cases hg:goodI i with
 | false=>
  rw [hg] at hr;rw [if_neg (by simp)];unfold inG at *;refine fn_intro Tryz.func40 Tryz.ntmps40 rfl rfl rfl (fun w0=>?_);refine rrs ?_;intro b1 _;refine rr ?_;refine cl (hr) ?_;intro _ _;refine rrs ?_;exact en () trivial
 | true=>
  rw [hg] at hr;rw [if_pos rfl];by_cases h1:i.op=15∨i.op=16
  ·have him:=good_imm hg h1;rw [if_pos h1];obtain ⟨op,a,b,c,imm⟩:=i;unfold inG at *;dsimp only at *;rcases h1 with rfl | rfl
   all_goals
    refine fn_intro Tryz.func40 Tryz.ntmps40 rfl rfl rfl (fun w0=>?_);refine rrs ?_;intro b1 _;refine rr ?_;refine cl (hr) ?_;intro _ _;refine rrs ?_;exact en () trivial
  ·rw [if_neg h1];by_cases h2:i.op=17∨i.op=18
   ·rw [if_pos h2];obtain ⟨op,a,b,c,imm⟩:=i;unfold inG at *;dsimp only at *;rcases h2 with rfl | rfl
    all_goals
     refine fn_intro Tryz.func40 Tryz.ntmps40 rfl rfl rfl (fun w0=>?_);refine rrs ?_;intro b1 _;refine rr ?_;refine cl (hr) ?_;intro _ _;refine rrs ?_;exact en () trivial
   ·rw [if_neg h2];obtain ⟨op,a,b,c,imm⟩:=i;unfold inG at *;dsimp only at *;refine fn_intro Tryz.func40 Tryz.ntmps40 rfl rfl rfl (fun w0=>?_);refine rrs ?_;intro b1 _;refine rr ?_;refine cl (hr) ?_;intro _ _;refine rrs ?_;exact en () trivial
theorem fitG_step {n k:Nat} {code:List In} {i:In} (h:code[k]? = some i):fitG n k (code.drop k)=(fitI n (k:Int) i && fitG n (k+1) (code.drop (k+1))):=by
 rw [drop_at h,fitG]
theorem fitC (la:Option Addr) (lc:Nat) (l:List In) (hl:l.length≤1000000):FnC (α:=Unit) Tryz.prog 38 [.slice la l.length lc] [] [rng la (insC l)] (fun _=>.bool (fitF l)) (fun _=>[]) (fun _=>True):=by
 have hcl:=insC_len l;unfold fitF;by_cases hlt:l.length≤4096
 ·rw [decide_eq_true hlt,Bool.true_and];have hnl:¬ (l.length:Int)>4096:=by omega
  refine fn_intro Tryz.func38 Tryz.ntmps38 rfl rfl rfl (fun w0=>?_);refine rrs ?_;refine lo [0,10,11] (fun k:Nat=>[(12,.int .i64 (k:Int))]) (fun k=>[]) (fun k=>k≤l.length∧fitG l.length 0 l=fitG l.length k (l.drop k)) (fun k=>l.length-k) 0 ⟨Nat.zero_le _,rfl⟩ ?_;rintro k ⟨hk,hfg⟩ K1 hK1;try dsimp only at hk hfg ⊢
  rw [hfg];by_cases hkl:k<l.length
  ·obtain ⟨e,he⟩:=some_at hkl;rw [fitG_step he] at hfg ⊢;have htc:=targetC e (k:Int) ⟨by omega,by omega⟩;have hrc:=rightIC e;unfold fitI at hfg ⊢;have heA:((insC l).drop ((k:Int).toNat*5)).take 5=[.int .i64 e.op,.int .i64 e.a,.int .i64 e.b,.int .i64 e.c,.int .i64 e.imm]:=insC_all he _ (by omega);have heL:=insC_len l;refine w_use (fun w hw=>(hw.pick 0 rfl).rng_some (by omega)) ?_;rintro ⟨g1,rfl⟩;unfold inG at htc hrc;refine rr ?_;intro b4 _;refine rr ?_;refine cl (htc) ?_;intro _ _;refine rrs ?_;refine cl (hrc) ?_;intro _ _;try simp only [Sx.ap1,Sx.ap2,Sx.ap3]
   cases hg:goodI e with
   | false=>
    rw [hg] at hfg;rw [Bool.false_and,Bool.false_and];refine rr ?_;exact en () trivial
   | true=>
    rw [hg,Bool.true_and] at hfg;rw [Bool.true_and];cases ht:targetF e (k:Int) with
    | none=>
     rw [ht] at hfg;dsimp only at hfg ⊢;rw [Bool.true_and] at hfg ⊢;refine rr ?_;exact ro hK1 (k+1) ⟨hkl,hfg⟩
    | some tq=>
     rw [ht] at hfg;dsimp only [Option.getD_some,Option.isSome_some] at hfg ⊢;by_cases h0:tq<0
     ·rw [decide_eq_false (show ¬ (0≤tq∧tq≤(l.length:Int)) by omega),Bool.false_and];refine rr ?_;exact en () trivial
     ·by_cases h1:tq>(l.length:Int)
      ·rw [decide_eq_false (show ¬ (0≤tq∧tq≤(l.length:Int)) by omega),Bool.false_and];refine rr ?_;exact en () trivial
      ·rw [decide_eq_true (show 0≤tq∧tq≤(l.length:Int) by omega),Bool.true_and] at hfg ⊢;refine rr ?_;exact ro hK1 (k+1) ⟨hkl,hfg⟩
  ·obtain rfl:k=l.length:=by omega
   rw [List.drop_length];refine rr ?_;exact en () trivial
 ·rw [decide_eq_false hlt,Bool.false_and];have hnl:(l.length:Int)>4096:=by omega
  refine fn_intro Tryz.func38 Tryz.ntmps38 rfl rfl rfl (fun w0=>?_);refine rrs ?_;exact en () trivial
theorem endFC (b:Nat) (la:Option Addr) (n lc:Nat) (v:Int):FnC (α:=Unit) Tryz.prog 188 [.int .i64 v,.pointer (some ⟨b,0,none⟩)] [blk b [.slice la n lc] 24] [] (fun _=>.bool (decide (v=(n:Int)))) (fun _=>[blk b [.slice la n lc] 24]) (fun _=>True):=by
 refine fn_intro Tryz.func188 Tryz.ntmps188 rfl rfl rfl (fun w0=>?_);refine rrs ?_;exact en () trivial
theorem indexHC (b:Nat) (la:Option Addr) (n lc:Nat) (a:Option Addr) (c:Nat) (l:List Int) (hl:l.length≤1000000000000):FnC Tryz.prog 224 [.slice a l.length c,.func (.func 188) #[] #[.pointer (some ⟨b,0,none⟩)]] [blk b [.slice la n lc] 24] [rng a (i64C l)] (fun v:Int=>.int .i64 v) (fun _=>[blk b [.slice la n lc] 24]) (fun v=>(v = -1∧∀ z∈l,z≠(n:Int))∨∃ k:Nat,v=(k:Int)∧k<l.length∧l[k]? = some (n:Int)∧∀ z∈l.take k,z≠(n:Int)):=by
 have hlen:=i64C_len l;refine fn_intro Tryz.func224 Tryz.ntmps224 rfl rfl rfl (fun w0=>?_);refine rrs ?_;refine lo [0,1,7] (fun k:Nat=>[(8,.int .i64 (k:Int))]) (fun k=>[]) (fun k=>k≤l.length∧∀ z∈l.take k,z≠(n:Int)) (fun k=>l.length-k) 0 ⟨Nat.zero_le _,by simp⟩ ?_;rintro k ⟨hk,hany⟩ K1 hK1;try dsimp only at hk hany ⊢
 by_cases hlt:k<l.length
 ·obtain ⟨v,hvk⟩:=some_at hlt;have hget:(i64C l)[(k:Int).toNat*1]? = some (.int .i64 v):=by rw [show (k:Int).toNat*1=k by omega];exact i64C_get hvk
  refine w_use (fun w hw=>(hw.pick 1 rfl).rng_some (by omega)) ?_;rintro ⟨g1,rfl⟩;refine rr ?_;refine clv (endFC b la n lc v) ?_;intro _ _;try simp only [Sx.ap1,Sx.ap2,Sx.ap3]
  by_cases hx:v=(n:Int)
  ·rw [decide_eq_true hx];refine rr ?_;exact en (k:Int) (.inr ⟨k,rfl,hlt,by rw [hvk,hx],hany⟩)
  ·rw [decide_eq_false hx];refine rr ?_;refine ro hK1 (k+1) ⟨by omega,?_⟩;rw [List.take_add_one,hvk];intro z hz;simp only [Option.toList_some,List.mem_append,List.mem_singleton] at hz;rcases hz with hz | rfl
   ·exact hany z hz
   ·exact hx
 ·obtain rfl:k=l.length:=by omega
  rw [List.take_length] at hany;refine rr ?_;exact en (-1) (.inl ⟨rfl,hany⟩)
def neF (m:Int) (l:List Int):List Int:=l.filter fun z=>decide (z≠m)
theorem neF_all {n:Nat} {l:List Int} (h:∀ z∈l,z≠(n:Int)):neF (n:Int) l=l:=List.filter_eq_self.2 (fun z hz=>by simpa using h z hz)
theorem neF_snoc {n:Nat} {l:List Int} {k:Nat} {v:Int} (h:l[k]? = some v):neF (n:Int) (l.take (k+1))=neF (n:Int) (l.take k)++(if v=(n:Int) then [] else [v]):=by
 unfold neF;rw [List.take_add_one,h,List.filter_append];by_cases hv:v=(n:Int)
 ·simp [hv]
 ·simp [hv]
structure DelJ (n:Nat) (l:List Int) (x:Nat×Nat×List Int):Prop where
 len:x.2.2.length=l.length
 lt:x.1<x.2.1
 le:x.2.1≤l.length
 pre:x.2.2.take x.1=neF (n:Int) (l.take x.2.1)
 post:x.2.2.drop x.2.1=l.drop x.2.1
theorem DelJ.at {n:Nat} {l:List Int} {x:Nat×Nat×List Int} (h:DelJ n l x) {v:Int} (hv:l[x.2.1]? = some v):x.2.2[x.2.1]? = some v:=by
 have h1:(x.2.2.drop x.2.1)[0]? = (l.drop x.2.1)[0]? := by rw [h.post]
 rw [List.getElem?_drop,List.getElem?_drop,Nat.add_zero] at h1;rw [h1];exact hv
theorem DelJ.drop {n:Nat} {l:List Int} {i j:Nat} {xs:List Int} (h:DelJ n l (i,j,xs)) (hj:l[j]? = some (n:Int)) (hlt:j<l.length):DelJ n l (i,j+1,xs):=
 ⟨h.len,by have:=h.lt;dsimp only at this ⊢;omega,hlt,by
  have:=h.pre;dsimp only at this ⊢;rw [neF_snoc hj,if_pos rfl,List.append_nil];exact this,by
  have:=h.post;dsimp only at this ⊢;rw [← List.drop_drop,this,List.drop_drop]⟩
theorem DelJ.keep {n:Nat} {l:List Int} {i j:Nat} {xs:List Int} {v:Int} (h:DelJ n l (i,j,xs)) (hj:l[j]? = some v) (hv:v≠(n:Int)) (hlt:j<l.length):DelJ n l (i+1,j+1,xs.set i v):=by
 obtain ⟨h1,h2,h3,h4,h5⟩:=h;dsimp only at h1 h2 h3 h4 h5;refine ⟨by simpa using h1,by dsimp only;omega,hlt,?_,?_⟩
 ·dsimp only;rw [neF_snoc hj,if_neg hv,← h4,List.take_add_one,List.take_set_of_le (Nat.le_refl _),List.getElem?_set_self (by omega)];rfl
 ·dsimp only;rw [List.drop_set_of_lt (by omega),← List.drop_drop,h5,List.drop_drop]
theorem deleteHC (b:Nat) (la:Option Addr) (n lc:Nat) (a:Option Addr) (c:Nat) (l:List Int) (hl:l.length≤1000000000):FnC (α:=Unit) Tryz.prog 185 [.slice a l.length c,.func (.func 188) #[] #[.pointer (some ⟨b,0,none⟩)]] [row a c 3 1 l.length (i64C l),blk b [.slice la n lc] 24] [] (fun _=>.slice a (neF (n:Int) l).length c) (fun _=>[row a c 3 1 (neF (n:Int) l).length (i64C (neF (n:Int) l)),blk b [.slice la n lc] 24]) (fun _=>True):=by
 have h:=indexHC b la n lc a c l (by omega);refine fn_intro Tryz.func185 Tryz.ntmps185 rfl rfl rfl (fun w0=>?_);refine rrs ?_;refine cl (h) ?_;intro v hvv;try simp only [Sx.ap1,Sx.ap2,Sx.ap3]
 refine hv [row a c 3 1 l.length (i64C l),blk b [.slice la n lc] 24] ?_;rcases hvv with ⟨rfl,hvv⟩ | ⟨k,rfl,hk,hk0,hvv⟩
 ·rw [neF_all hvv];refine rr ?_;exact en () trivial
 refine w_use (fun w hw=>(hw.pick 0 rfl).row_cap) fun hcap=>?_
 refine w_use (fun w hw=>(hw.pick 0 rfl).row_some (by omega)) ?_;rintro ⟨g,rfl⟩;refine rr ?_;refine lo [0,1] (fun x:Nat×Nat×List Int=>[(5,.int .i64 (x.1:Int)),(6,.int .i64 (x.2.1:Int))]) (fun x=>[(0,row (some ⟨g,0,none⟩) c 3 1 l.length (i64C x.2.2))]) (fun x=>DelJ n l x) (fun x=>l.length-x.2.1) (k,k+1,l) ⟨rfl,Nat.lt_succ_self k,hk,by rw [neF_snoc hk0,if_pos rfl,List.append_nil,neF_all hvv],rfl⟩ ?_;rintro ⟨i,j,xs⟩ hx K1 hK1;have hx1:=hx.len;have hx2:=hx.lt;have hx3:=hx.le;dsimp only at hx1 hx2 hx3 ⊢;have hxl:=i64C_len xs;by_cases hlt:j<l.length
 ·obtain ⟨v,hvj⟩:=some_at hlt;have hvx:=hx.at hvj;dsimp only at hvx;have hget:(i64C xs)[0+(j:Int).toNat*1]? = some (.int .i64 v):=by rw [show 0+(j:Int).toNat*1=j by omega];exact i64C_get hvx
  refine rr ?_;refine clv (endFC b la n lc v) ?_;intro _ _;try simp only [Sx.ap1,Sx.ap2,Sx.ap3]
  by_cases hv0:v=(n:Int)
  ·rw [decide_eq_true hv0];subst hv0;refine rr ?_;exact ro hK1 (i,j+1,xs) (hx.drop hvj hlt)
  ·rw [decide_eq_false hv0];refine rr ?_;rw [show 0+(i:Int).toNat*1=i by omega,i64C_set];exact ro hK1 (i+1,j+1,xs.set i v) (hx.keep hvj hv0 hlt)
 ·obtain rfl:j=l.length:=by omega
  have hpre:=hx.pre;dsimp only at hpre;rw [List.take_length] at hpre;have hnl:(neF (n:Int) l).length=i:=by rw [← hpre,List.length_take];omega
  refine rr ?_
  have hsl:sliceV (some ⟨g,0,none⟩) c 1 (((some (i:Int)).getD 0).toNat) (((none:Option Int).getD (l.length:Int)).toNat) = .slice (some ⟨g,i,none⟩) (l.length-i) (c-i):=by
   unfold sliceV;simp only [Option.getD_some,Option.getD_none,Int.toNat_natCast,Nat.mul_one]
   first | rfl | (rw [if_neg (by omega)];simp [Addr.add];omega) | simp [Addr.add]
  refine w_eff (eff_clear (i:=0) (zv:=.int .i64 0) (k:=l.length-i) (o:=i) (c:=c-i) T (congrArg some hsl) rfl rfl rfl rfl rfl (by omega)) (fun _ _=>?_)
  have hce:List.take (i*1) (List.take i (i64C xs)++List.replicate (l.length-i) (Value.int .i64 0)++List.drop (i+(l.length-i)) (i64C xs))=i64C (neF (n:Int) l):=by
   rw [Nat.mul_one,List.append_assoc,List.take_left' (by rw [List.length_take,hxl];omega),← hpre,← i64C_take,Nat.mul_one]
  refine w_turn (fun w hw=>by have:=hw.row_shrink (m:=i) (by omega);rw [hce] at this;exact this) ?_;rw [hnl];refine rr ?_;exact en () trivial
def gathI (b2:Nat) (q:List Int×Option Addr×Nat):List Chunk:=[blk b2 [.slice q.2.1 q.1.length q.2.2] 41,row q.2.1 q.2.2 3 1 q.1.length (i64C q.1)]
theorem appendSeqC (s b:Nat) (m:Option Nat) (oa:Option Addr) (oc:Nat) (l:List Int) (hl:l.length≤1000000) :
  FnC Tryz.prog 225 [.slice none 0 0,.func (.func 226) #[] #[.pointer (some ⟨s,0,none⟩)]]
   (boxS s b::setI b m oa oc l) [] (fun z:Option Addr×Nat=>.slice z.1 l.length z.2) (fun z=>boxS s b::setI b m oa oc l++[row z.1 z.2 3 1 l.length (i64C l)]) (fun _=>True):=by
 have hi := @allIC;unfold boxS setI at *;refine fn_introM Tryz.func225 Tryz.ntmps225 rfl rfl rfl (fun w0=>?_);refine rrs ?_;intro b2 _;refine rr ?_;refine hv ([boxS s b]++setI b m oa oc l++gathI b2 ([],none,0)) ?_ (hp:=by unfold boxS setI gathI;(repeat (first | exact Has.nil | (apply Has.cons;focus ((repeat (first | exact pick_here | apply pick_there));done)) | apply Has.nrow | apply Has.gen0)))
 refine w_rangeFunc (σ:=List Int×Option Addr×Nat) (τ:=Empty) (A:=[boxS s b]++setI b m oa oc l++gathI b2 ([],none,0)) [0,0,0,0,0,0]
  (fun q=>[boxS s b]++setI b m oa oc l++gathI b2 q) (fun e=>e.elim) (fun q=>q.1=l) (fun e=>False) (fun e=>e.elim) ?_ rfl rfl rfl (fun q=>by unfold boxS setI gathI;cases m <;> rfl) (fun e=>e.elim) ?_ (fun D e=>e.elim)
 ·intro ly D fn tmps hE;have hz:=fun (ag bd:Code)=>hi (σ:=List Int×Option Addr×Nat) (τ:=Empty) ly s b m oa oc l (by omega) (fun q=>recC ly (recL fn tmps #[7] ag bd D)::gathI b2 q) (fun e=>e.elim) (fun pre q=>q.1=pre) (fun e=>False) ([],none,0)
  refine (hz _ _ ?_ (fun _=>rfl) (fun e=>e.elim) rfl).perm [1,1,1,1,0,0,0] rfl ?_ ?_
  ·intro pre e rest q hsplit hq;obtain ⟨p,pa0,pc0⟩:=q;dsimp only at hq;subst hq
   have hpl:p.length≤1000000:=by
    have:=congrArg List.length hsplit;rw [List.length_append] at this;omega
   refine yd_go (ps:=[7]) (E0:=[(2,.pointer (some ⟨b2,0,none⟩))]) hE ⟨rfl,trivial⟩ rfl rfl (fun w0=>?_);simp only [List.zip_cons_cons,List.zip_nil_right,envPut];unfold gathI;dsimp only;refine rr ?_;refine w_begin rfl rfl ?_;refine rr ?_;intro b9 _;refine rr ?_;rintro ⟨pa,pc⟩ ⟨ph,_⟩;refine rr ?_;rw [← i64C_snoc,show p.length+1=(p++[e]).length by simp];exact w_rgo (Sum.inl (p++[e],pa,pc)) [0,0,0] (i:=2) rfl rfl rfl rfl
  ·intro z;cases z with | inl z=>(cases m <;> rfl) | inr e=>exact e.elim
  ·intro z;cases z with | inl z=>exact ⟨[4,0,0,0,0,0,0],[],rfl⟩ | inr e=>exact e.elim
 ·intro D q hq;obtain ⟨p,pa0,pc0⟩:=q;dsimp only at hq;subst hq;unfold gathI boxS setI;dsimp only;refine rr ?_;exact weM1 (pa0,pc0) [0,0,0,0,1] trivial
theorem collectC (s b:Nat) (m:Option Nat) (oa:Option Addr) (oc:Nat) (l:List Int) (hl:l.length≤1000000) :
  FnC Tryz.prog 186 [.func (.func 226) #[] #[.pointer (some ⟨s,0,none⟩)]]
   (boxS s b::setI b m oa oc l) [] (fun z:Option Addr×Nat=>.slice z.1 l.length z.2) (fun z=>boxS s b::setI b m oa oc l++[row z.1 z.2 3 1 l.length (i64C l)]) (fun _=>True):=by
 have h:=appendSeqC s b m oa oc l hl;unfold boxS setI at *;refine fn_intro Tryz.func186 Tryz.ntmps186 rfl rfl rfl (fun w0=>?_);refine rrs ?_;refine cl (h) (ho:=fun z=>by cases m <;> rfl) ?_;intro ⟨za,zc⟩ _;refine rrs ?_;exact en (za,zc) trivial
end Go.Proofs.YtkolmklfgbimoaaGreatDoor
namespace Go.Proofs.YtkolmklfgbimoaaGreatDoor
open Go
def addL (L:List Int) (x:Int):List Int:=if inI x L then L else L++[x]
def setL (xs:List Int):List Int:=xs.foldl addL []
theorem inI_mem (x:Int) (L:List Int):inI x L=true↔x∈L:=by
 unfold inI;rw [List.any_eq_true];constructor
 ·rintro ⟨y,hy,h⟩;have:=of_decide_eq_true h;subst this;exact hy
 ·intro h;exact ⟨x,h,by simp⟩
theorem addL_mem (L:List Int) (x z:Int):z∈addL L x↔z∈L∨z=x:=by
 unfold addL;cases h:inI x L with
 | true=>
  rw [if_pos rfl];have:=(inI_mem x L).1 h;constructor
  ·exact .inl
  ·rintro (h1 | rfl)
   ·exact h1
   ·exact this
 | false=>rw [if_neg (by simp)];simp
theorem addL_nodup {L:List Int} {x:Int} (h:L.Nodup):(addL L x).Nodup:=by
 unfold addL;cases hx:inI x L with
 | true=>rw [if_pos rfl];exact h
 | false=>
  rw [if_neg (by simp),List.nodup_append];refine ⟨h,by simp,fun a ha b hb=>?_⟩;rw [List.mem_singleton.1 hb];intro he;subst he;rw [(inI_mem a L).2 ha] at hx;cases hx
theorem setL_go:∀ (xs L:List Int),L.Nodup→(xs.foldl addL L).Nodup∧∀ z,z∈xs.foldl addL L↔z∈L∨z∈xs
 | [],L,h=>⟨h,fun z=>by simp⟩
 | x::xs,L,h=>by
  obtain ⟨h1,h2⟩:=setL_go xs (addL L x) (addL_nodup h);refine ⟨h1,fun z=>?_⟩;rw [List.foldl_cons,h2,addL_mem,List.mem_cons,or_assoc]
theorem setL_mem (xs:List Int) (z:Int):z∈setL xs↔z∈xs:=by
 have:=(setL_go xs [] List.nodup_nil).2 z
 simpa [setL] using this
theorem setL_nodup (xs:List Int):(setL xs).Nodup:=(setL_go xs [] List.nodup_nil).1
theorem addL_len (L:List Int) (x:Int):(addL L x).length≤L.length+1:=by unfold addL;split <;> simp
theorem setL_len (xs:List Int):(setL xs).length≤xs.length:=by
 have:∀ (xs L:List Int),(xs.foldl addL L).length≤L.length+xs.length:=by
  intro xs
  induction xs with
  | nil=>intro L;simp
  | cons x xs ih=>intro L;have h1:=ih (addL L x);have h2:=addL_len L x;rw [List.foldl_cons,List.length_cons];omega
 have:=this xs []
 simpa [setL] using this
theorem tellG_snoc:∀ (l:List In) (k:Nat) (e:In),tellG k (l++[e])=tellG k l++tellF (k+l.length) e
 | [],k,e=>by rw [List.nil_append,tellG,tellG,tellG,List.nil_append,List.append_nil];rfl
 | a::l,k,e=>by rw [List.cons_append,tellG,tellG,tellG_snoc l (k+1) e,List.append_assoc,List.length_cons,show k+1+l.length=k+(l.length+1) by omega]
theorem tellG_step {l:List In} {k:Nat} {e:In} (h:l[k]? = some e):tellG 0 (l.take (k+1))=tellG 0 (l.take k)++tellF k e:=by
 have hk:k<l.length:=(List.getElem?_eq_some_iff.1 h).1;rw [List.take_add_one,h,Option.toList_some,tellG_snoc,Nat.zero_add,List.length_take,Nat.min_eq_left (by omega)]
theorem tellF_len (k:Nat) (e:In):(tellF k e).length≤2:=by
 unfold tellF;cases targetF e (k:Int) <;> cases goesF e <;> simp
theorem tellG_len:∀ (l:List In) (k:Nat),(tellG k l).length≤2*l.length
 | [],_=>by simp [tellG]
 | a::l,k=>by
  have h1:=tellG_len l (k+1);have h2:=tellF_len k a;rw [tellG,List.length_append,List.length_cons];omega
theorem ssorted_ext:∀ (l m:List Int),l.Pairwise (· < ·)→m.Pairwise (· < ·)→(∀ x,x∈l↔x∈m)→l=m
 | [],[],_,_,_=>rfl
 | [],b::m,_,_,h=>absurd ((h b).2 (by simp)) (by simp)
 | a::l,[],_,_,h=>absurd ((h a).1 (by simp)) (by simp)
 | a::l,b::m,hl,hm,h=>by
  rw [List.pairwise_cons] at hl hm
  have hab:a=b:=by
   rcases List.mem_cons.1 ((h a).1 (by simp)) with h1 | h1
   ·exact h1
   ·rcases List.mem_cons.1 ((h b).2 (by simp)) with h2 | h2
    ·exact h2.symm
    ·have:=hm.1 a h1;have:=hl.1 b h2;omega
  subst hab
  congr 1
  refine ssorted_ext l m hl.2 hm.2 (fun x=>?_);constructor
  ·intro hx;rcases List.mem_cons.1 ((h x).1 (by simp [hx])) with rfl | h1
   ·have:=hl.1 x hx;omega
   ·exact h1
  ·intro hx;rcases List.mem_cons.1 ((h x).2 (by simp [hx])) with rfl | h1
   ·have:=hm.1 x hx;omega
   ·exact h1
theorem sort_lt {l:List Int} (h:l.Nodup):(l.mergeSort fun x y=>decide (x≤y)).Pairwise (· < ·):=by
 have h1:(l.mergeSort fun x y=>decide (x≤y)).Pairwise (fun a b=>decide (a≤b)=true):=List.pairwise_mergeSort (fun a b c h1 h2=>by simp only [decide_eq_true_eq] at *;omega) (fun a b=>by simp only [Bool.or_eq_true,decide_eq_true_eq];omega) l;have h2:(l.mergeSort fun x y=>decide (x≤y)).Nodup:=(List.mergeSort_perm l _).nodup_iff.2 h;refine (h1.and h2).imp (fun {a b} hab=>?_);have h3:=of_decide_eq_true hab.1;have h4:a≠b:=hab.2;omega
theorem tell_range (n:Nat):∀ (l:List In) (k:Nat),k+l.length=n→fitG n k l=true→∀ z∈tellG k l,0≤z∧z≤(n:Int)
 | [],k,_,_,z,hz=>by cases hz
 | a::l,k,hk,hf,z,hz=>by
  rw [List.length_cons] at hk;rw [fitG,Bool.and_eq_true] at hf;rw [tellG] at hz;rcases List.mem_append.1 hz with hz | hz
  ·unfold tellF at hz;rcases List.mem_append.1 hz with hz | hz
   ·have h1:=hf.1;unfold fitI at h1;cases ht:targetF a (k:Int) with
    | none=>rw [ht] at hz;cases hz
    | some t=>
     rw [ht] at hz h1;simp only [Bool.and_eq_true,decide_eq_true_eq] at h1;rw [List.mem_singleton.1 hz];exact h1.2
   ·split at hz
    ·rw [List.mem_singleton.1 hz];omega
    ·cases hz
  ·exact tell_range n l (k+1) (by omega) hf.2 z hz
theorem heads_sort (l:List In) (hf:fitF l=true) (hne:l≠[]):(((setL (0::tellG 0 l)).filter fun z=>decide (z≠(l.length:Int))).mergeSort fun x y=>decide (x≤y))=(headsF l).map fun n:Nat=>(n:Int):=by
 refine ssorted_ext _ _ (sort_lt ((setL_nodup _).filter _)) ?_ (fun x=>?_)
 ·unfold headsF;rw [if_pos ⟨hf,hne⟩,List.pairwise_map];exact (List.pairwise_lt_range.filter _).imp (fun h=>by omega)
 ·have hmem:=(List.mergeSort_perm ((setL (0::tellG 0 l)).filter fun z=>decide (z≠(l.length:Int))) (fun x y=>decide (x≤y))).mem_iff (a:=x);rw [hmem,List.mem_filter,setL_mem,List.mem_map]
  have hfg:fitG l.length 0 l=true:=by
   unfold fitF at hf;rw [Bool.and_eq_true] at hf;exact hf.2
  have hr:=tell_range l.length l 0 (by omega) hfg;have hlp:0<l.length:=List.length_pos_iff.2 hne;unfold headsF;rw [if_pos ⟨hf,hne⟩];simp only [List.mem_filter,List.mem_range,decide_eq_true_eq,List.contains_iff_mem];constructor
  ·rintro ⟨h1,h2⟩
   have h3:0≤x∧x≤(l.length:Int):=by
    rcases List.mem_cons.1 h1 with rfl | h1
    ·omega
    ·exact hr x h1
   refine ⟨x.toNat,⟨by omega,?_⟩,by omega⟩;rw [show ((x.toNat:Nat):Int)=x by omega];exact h1
  ·rintro ⟨n,⟨h1,h2⟩,rfl⟩;exact ⟨h2,by omega⟩
end Go.Proofs.YtkolmklfgbimoaaGreatDoor
namespace Go.Proofs.YtkolmklfgbimoaaGreatDoor
open Go Go.Sx Go.Sx.Chunk
theorem setAddL (b:Nat) (m:Option Nat) (oa:Option Addr) (oc:Nat) (L:List Int) (v:Int) (hm:setIOk m L) (hl:L.length≤1000000) :
  FnC Tryz.prog 184 [.pointer (some ⟨b,0,none⟩),.int .i64 v] (setI b m oa oc L) [] (fun _:Option Nat×Option Addr×Nat=>.bool (!inI v L)) (fun x=>setI b x.1 x.2.1 x.2.2 (addL L v)) (fun x=>setIOk x.1 (addL L v)):=setIAddC b m oa oc L v hm (by omega)
def headS (l:List In) (k:Nat):List Int:=setL (0::tellG 0 (l.take k))
theorem headS_step {l:List In} {k:Nat} {e:In} (h:l[k]? = some e):headS l (k+1)=(tellF k e).foldl addL (headS l k):=by
 unfold headS setL;rw [tellG_step h,← List.cons_append,List.foldl_append]
theorem headS_len (l:List In) (k:Nat):(headS l k).length≤1+2*l.length:=by
 unfold headS;have h1:=setL_len (0::tellG 0 (l.take k));have h2:=tellG_len (l.take k) 0;rw [List.length_cons] at h1;rw [List.length_take] at h2;omega
theorem headsC (la:Option Addr) (lc:Nat) (l:List In) (hl:l.length≤1000000):FnC Tryz.prog 135 [.slice la l.length lc] [] [rng la (insC l)] (fun z:Option Addr×Nat=>.slice z.1 (headsF l).length z.2) (fun z=>[row z.1 z.2 3 1 (headsF l).length (i64C ((headsF l).map fun n:Nat=>(n:Int)))]) (fun _=>True):=by
 have hcl:=insC_len l;have hfi:=fitC la lc l hl;by_cases hfit:fitF l=true
 ·rw [hfit] at hfi
  have hl4:l.length≤4096:=by
   unfold fitF at hfit;rw [Bool.and_eq_true] at hfit;exact of_decide_eq_true hfit.1
  by_cases hne:l=[]
  ·have e0:headsF l=[]:=by unfold headsF;rw [if_neg (fun h=>h.2 hne)]
   have hz:(l.length:Int)=0:=by rw [hne];rfl
   rw [e0];refine fn_intro Tryz.func135 Tryz.ntmps135 rfl rfl rfl (fun w0=>?_);refine rrs ?_;intro b1 _;refine rr ?_;refine cl (hfi) ?_;intro _ _;refine rrs ?_;exact en (none,0) trivial
  ·have hlp:0<l.length:=List.length_pos_iff.2 hne;have hz:¬ (l.length:Int)=0:=by omega
   refine fn_intro Tryz.func135 Tryz.ntmps135 rfl rfl rfl (fun w0=>?_);refine rrs ?_;intro b1 _;refine rr ?_;refine cl (hfi) ?_;intro _ _;refine rrs ?_;intro b3 _;refine rr ?_;have h0:=setAddL b3 none none 0 [] 0 (fun _=>rfl) (by simp);unfold setI at h0;refine cl (h0) (ho:=fun z=>by obtain ⟨m3,_,_⟩:=z;cases m3 <;> rfl) ?_;intro ⟨m0,sa0,sc0⟩ hm0;try simp only [Sx.ap1,Sx.ap2,Sx.ap3]
   dsimp only at hm0 ⊢;rw [show addL [] 0=headS l 0 from rfl] at hm0 ⊢;refine rr ?_;refine lo [1,3,18,19] (fun y:Nat×Option Nat×Option Addr×Nat=>[(20,.int .i64 (y.1:Int))]) (fun y=>[(0,blk b3 [.map y.2.1,.slice y.2.2.1 (headS l y.1).length y.2.2.2] 231),(1,row y.2.2.1 y.2.2.2 3 1 (headS l y.1).length (i64C (headS l y.1))),(2,mapI y.2.1 (headS l y.1))]) (fun y=>y.1≤l.length∧setIOk y.2.1 (headS l y.1)) (fun y=>l.length-y.1) (0,m0,sa0,sc0) ⟨Nat.zero_le _,hm0⟩ ?_;rintro ⟨k,m,sa,sc⟩ ⟨hk,hm⟩ K1 hK1;dsimp only at hk hm ⊢;have hSl:=headS_len l k;by_cases hkl:k<l.length
   ·obtain ⟨e,he⟩:=some_at hkl;have hst:=headS_step he;have htc:=targetC e (k:Int) ⟨by omega,by omega⟩;have hgc:=goesEC e;unfold tellF at hst;have heA:((insC l).drop ((k:Int).toNat*5)).take 5=[.int .i64 e.op,.int .i64 e.a,.int .i64 e.b,.int .i64 e.c,.int .i64 e.imm]:=insC_all he _ (by omega);have heL:=insC_len l;refine w_use (fun w hw=>(hw.pick 4 rfl).rng_some (by omega)) ?_;rintro ⟨g1,rfl⟩;unfold inG at htc hgc;refine rr ?_;intro b5 _;refine rr ?_;refine cl (htc) ?_;intro _ _;try simp only [Sx.ap1,Sx.ap2,Sx.ap3]
    cases ht:targetF e (k:Int) with
    | none=>
     rw [ht] at hst;dsimp only [Option.isSome_none,Option.getD_none] at hst ⊢;refine rr ?_;refine cl (hgc) ?_;intro _ _;try simp only [Sx.ap1,Sx.ap2,Sx.ap3]
     cases hg:goesF e with
     | true=>
      rw [hg,if_pos rfl] at hst;have ha:=setAddL b3 m sa sc (headS l k) ((k:Int)+1) hm (by omega);rw [show addL (headS l k) ((k:Int)+1)=headS l (k+1) by rw [hst];rfl] at ha;unfold setI at ha;refine rr ?_;refine cl (ha) (ho:=fun z=>by obtain ⟨m3,_,_⟩:=z;cases m3 <;> rfl) ?_;intro ⟨m1,sa1,sc1⟩ hm1;try simp only [Sx.ap1,Sx.ap2,Sx.ap3]
      dsimp only at hm1 ⊢;refine rr ?_;exact ro hK1 (k+1,m1,sa1,sc1) ⟨hkl,hm1⟩
     | false=>
      rw [hg,if_neg (by simp)] at hst;rw [show headS l k=headS l (k+1) by rw [hst];rfl] at hm ⊢;refine rr ?_;exact ro hK1 (k+1,m,sa,sc) ⟨hkl,hm⟩
    | some tq=>
     rw [ht] at hst;dsimp only [Option.isSome_some,Option.getD_some] at hst ⊢;have hal:=addL_len (headS l k) tq;have ha:=setAddL b3 m sa sc (headS l k) tq hm (by omega);unfold setI at ha;refine rr ?_;refine cl (ha) (ho:=fun z=>by obtain ⟨m3,_,_⟩:=z;cases m3 <;> rfl) ?_;intro ⟨m1,sa1,sc1⟩ hm1;try simp only [Sx.ap1,Sx.ap2,Sx.ap3]
     dsimp only at hm1 ⊢;refine rr ?_;refine cl (hgc) ?_;intro _ _;try simp only [Sx.ap1,Sx.ap2,Sx.ap3]
     cases hg:goesF e with
     | true=>
      rw [hg,if_pos rfl] at hst;have ha2:=setAddL b3 m1 sa1 sc1 (addL (headS l k) tq) ((k:Int)+1) hm1 (by omega);rw [show addL (addL (headS l k) tq) ((k:Int)+1)=headS l (k+1) by rw [hst];rfl] at ha2;unfold setI at ha2;refine rr ?_;refine cl (ha2) (ho:=fun z=>by obtain ⟨m3,_,_⟩:=z;cases m3 <;> rfl) ?_;intro ⟨m2,sa2,sc2⟩ hm2;try simp only [Sx.ap1,Sx.ap2,Sx.ap3]
      dsimp only at hm2 ⊢;refine rr ?_;exact ro hK1 (k+1,m2,sa2,sc2) ⟨hkl,hm2⟩
     | false=>
      rw [hg,if_neg (by simp)] at hst;rw [show addL (headS l k) tq=headS l (k+1) by rw [hst];rfl] at hm1 ⊢;refine rr ?_;exact ro hK1 (k+1,m1,sa1,sc1) ⟨hkl,hm1⟩
   ·obtain rfl:k=l.length:=by omega
    have hall:=allSC b3;have hco:=fun s=>collectC s b3 m sa sc (headS l l.length) (by omega)
    have hde:=fun za zc=>deleteHC b1 la l.length lc za zc (headS l l.length) (by omega)
    have hnl:(neF (l.length:Int) (headS l l.length)).length≤(headS l l.length).length:=List.length_filter_le _ _;have hso:=fun za zc=>sortIC za zc (neF (l.length:Int) (headS l l.length)) (by omega)
    have hfin:((neF (l.length:Int) (headS l l.length)).mergeSort fun x y=>decide (x≤y))=(headsF l).map fun n:Nat=>(n:Int):=by
     rw [← heads_sort l hfit hne];unfold neF headS;rw [List.take_length]
    have hfl:(neF (l.length:Int) (headS l l.length)).length=(headsF l).length:=by
     have:=congrArg List.length hfin;rw [List.length_mergeSort,List.length_map] at this;exact this
    rw [hfin,hfl] at hso;rw [hfl] at hde;unfold boxS at hall;unfold boxS setI at hco;refine rr ?_;refine cl (hall) ?_;intro s _;refine rrs ?_;refine cl (hco s) (ho:=fun z=>by cases m <;> rfl) ?_;intro ⟨za,zc⟩ _;refine rrs ?_;refine cl (hde za zc) ?_;intro _ _;refine rrs ?_;refine cl (hso za zc) ?_;intro _ _;refine rrs ?_;exact en (za,zc) trivial
 ·have e0:headsF l=[]:=by unfold headsF;rw [if_neg (fun h=>hfit h.1)]
  rw [show fitF l=false by simpa using hfit] at hfi;rw [e0];refine fn_intro Tryz.func135 Tryz.ntmps135 rfl rfl rfl (fun w0=>?_);refine rrs ?_;intro b1 _;refine rr ?_;refine cl (hfi) ?_;intro _ _;refine rrs ?_;exact en (none,0) trivial
def blV (p:Nat×Nat):List Value:=[.int .i64 (p.1:Int),.int .i64 (p.2:Int)]
def blC (l:List (Nat×Nat)):List Value:=l.flatMap blV
theorem blC_len (l:List (Nat×Nat)):(blC l).length=l.length*2:=flat_len (cells:=blV) (sz:=2) (fun _=>rfl) l
def cutA (n:Nat) (hs:List Nat) (i:Nat):Nat×Nat:=(hs.getD i 0,if i+1<hs.length then hs.getD (i+1) 0 else n)
def cutK (n:Nat) (hs:List Nat) (k:Nat):List (Nat×Nat):=(List.range k).map (cutA n hs)
theorem cutF_eq (n:Nat):∀ hs:List Nat,cutF n hs=cutK n hs hs.length
 | []=>rfl
 | [a]=>rfl
 | a::b::l=>by
  rw [cutF,cutF_eq n (b::l)];unfold cutK;rw [List.length_cons (a:=a),List.range_succ_eq_map,List.map_cons,List.map_map]
  congr 1
  apply List.map_congr_left;intro i hi;unfold cutA;simp
theorem cutK_succ (n:Nat) (hs:List Nat) (k:Nat):blC (cutK n hs (k+1))=blC (cutK n hs k)++[.int .i64 ((cutA n hs k).1:Int),.int .i64 ((cutA n hs k).2:Int)]:=by
 unfold cutK blC;rw [List.range_succ,List.map_append,List.flatMap_append];rfl
theorem blocksC (la:Option Addr) (lc:Nat) (l:List In) (hl:l.length≤1000000):FnC Tryz.prog 83 [.slice la l.length lc] [] [rng la (insC l)] (fun z:Option Addr×Nat=>.slice z.1 (blocksL l).length z.2) (fun z=>[row z.1 z.2 165 2 (blocksL l).length (blC (blocksL l))]) (fun _=>True):=by
 have hh:=headsC la lc l hl;have hcl:=insC_len l
 have hhl:(headsF l).length≤l.length:=by
  unfold headsF;split
  ·exact Nat.le_trans (List.length_filter_le _ _) (by simp)
  ·simp
 unfold blocksL;rw [cutF_eq];have hckl:∀ k,(cutK l.length (headsF l) k).length=k:=fun k=>by unfold cutK;simp
 rw [hckl];generalize headsF l=hs at *;have hil:(i64C (hs.map fun n:Nat=>(n:Int))).length=hs.length:=by rw [i64C_len];simp
 refine fn_intro Tryz.func83 Tryz.ntmps83 rfl rfl rfl (fun w0=>?_);refine rrs ?_;refine cl (hh) ?_;intro ⟨za,zc⟩ _;refine rrs ?_;refine hv [row za zc 3 1 hs.length (i64C (hs.map fun n:Nat=>(n:Int))),row none 0 165 2 0 (blC (cutK l.length hs 0)),rng la (insC l)] ?_;refine lo [0,4,10,11] (fun x:Nat×Option Addr×Nat=>[(3,.slice x.2.1 x.1 x.2.2),(12,.int .i64 (x.1:Int))]) (fun x=>[(1,row x.2.1 x.2.2 165 2 x.1 (blC (cutK l.length hs x.1)))]) (fun x=>x.1≤hs.length) (fun x=>hs.length-x.1) (0,none,0) (Nat.zero_le _) ?_;rintro ⟨k,xa,xc⟩ hk K1 hK1;try dsimp only at hk ⊢
 have hbl:(blC (cutK l.length hs k)).length=k*2:=by rw [blC_len,hckl]
 by_cases hlt:k<hs.length
 ·obtain ⟨v,hvk⟩:=some_at hlt
  have hgk:(i64C (hs.map fun n:Nat=>(n:Int)))[0+(k:Int).toNat*1]? = some (.int .i64 (v:Int)):=by
   rw [show 0+(k:Int).toNat*1=k by omega];refine i64C_get ?_;rw [List.getElem?_map,hvk];rfl
  have hsn:=cutK_succ l.length hs k;have ha1:(cutA l.length hs k).1=v:=by unfold cutA;simp [List.getD,hvk]
  rw [ha1] at hsn;refine w_use (fun w hw=>(hw.pick 0 rfl).row_some (by first | omega | decide | (simp;done) | (simp <;> omega))) ?_;rintro ⟨g1,rfl⟩;by_cases hk2:k+1<hs.length
  ·obtain ⟨u,huk⟩:=some_at hk2
   have hgu:(i64C (hs.map fun n:Nat=>(n:Int)))[0+((k:Int)+1).toNat*1]? = some (.int .i64 (u:Int)):=by
    rw [show 0+((k:Int)+1).toNat*1=k+1 by omega];refine i64C_get ?_;rw [List.getElem?_map,huk];rfl
   have ha2:(cutA l.length hs k).2=u:=by unfold cutA;rw [if_pos hk2];simp [List.getD,huk]
   rw [ha2] at hsn;refine rr ?_;intro b9 _;refine rr ?_;rintro ⟨pa,pc⟩ ⟨ph,_⟩;refine rr ?_;rw [← hsn];exact ro hK1 (k+1,pa,pc) (by dsimp only;omega)
  ·have ha2:(cutA l.length hs k).2=l.length:=by unfold cutA;rw [if_neg hk2]
   rw [ha2] at hsn;refine rr ?_;intro b9 _;refine rr ?_;rintro ⟨pa,pc⟩ ⟨ph,_⟩;refine rr ?_;rw [← hsn];exact ro hK1 (k+1,pa,pc) (by dsimp only;omega)
 ·obtain rfl:k=hs.length:=by omega
  refine rr ?_;exact en (xa,xc) trivial
theorem padG_mem {l:List In} {o:List Int} {last:In} (h:∀ x∈o,-1≤x∧x<(l.length:Int)):∀ x∈padG l o last,-1≤x∧x<(l.length:Int):=by
 unfold padG;split
 ·exact h
 ·intro x hx;rcases List.mem_append.1 hx with hx | hx
  ·exact h x hx
  ·rw [List.mem_singleton.1 hx];omega
theorem layF_mem (l:List In):∀ x∈layF l,-1≤x∧x<(l.length:Int):=by
 have ho:∀ m:List In,m.length≤l.length→∀ x∈orderF m,-1≤x∧x<(l.length:Int):=fun m hm x hx=>by
  have:=orderF_mem m x hx;omega
 unfold layF;split
 ·intro x hx;cases hx
 ·rename_i hne;have hlp:0<l.length:=List.length_pos_iff.2 hne;dsimp only;have h1:=ho (l.take (l.length-1)) (by rw [List.length_take];omega);have h2:=ho l (Nat.le_refl _);split
  ·split
   ·intro x hx;rcases List.mem_append.1 hx with hx | hx
    ·exact h1 x (List.mem_of_mem_take hx)
    ·simp only [List.mem_cons,List.not_mem_nil,or_false] at hx;rcases hx with rfl | rfl
     ·omega
     ·by_cases hl:(orderF (l.take (l.length-1))).length-1<(orderF (l.take (l.length-1))).length
      ·exact h1 _ (getD_mem hl)
      ·rw [List.getD_eq_getElem?_getD,List.getElem?_eq_none (by omega)];show -1≤(0:Int)∧(0:Int)<(l.length:Int)
       omega
   ·intro x hx;rcases List.mem_append.1 hx with hx | hx
    ·exact padG_mem h1 x hx
    ·simp only [List.mem_cons,List.not_mem_nil,or_false] at hx;rcases hx with rfl | rfl <;> omega
  ·split
   ·intro x hx;rcases List.mem_append.1 hx with hx | hx
    ·exact h2 x hx
    ·rw [List.mem_singleton.1 hx];omega
   ·exact h2
theorem layF_len (l:List In):(layF l).length≤2*l.length+4:=by
 unfold layF;split
 ·simp
 ·dsimp only;have h1:=orderF_len (l.take (l.length-1));have h2:=orderF_len l;rw [List.length_take] at h1;have h3:∀ o last,(padG l o last).length≤o.length+1:=fun o last=>by unfold padG;split <;> simp
  split
  ·split
   ·rw [List.length_append,List.length_take];simp only [List.length_cons,List.length_nil];omega
   ·have:=h3 (orderF (l.take (l.length-1))) (l.getD (l.length-1) nopI);rw [List.length_append];simp only [List.length_cons,List.length_nil];omega
  ·split
   ·rw [List.length_append];simp only [List.length_cons,List.length_nil];omega
   ·omega
theorem headsF_lt (l:List In):(headsF l).Pairwise (· < ·)∧∀ v∈headsF l,v<l.length:=by
 unfold headsF;split
 ·exact ⟨List.pairwise_lt_range.filter _,fun v hv=>List.mem_range.1 (List.mem_filter.1 hv).1⟩
 ·exact ⟨List.Pairwise.nil,fun v hv=>by cases hv⟩
theorem blocksL_mem (l:List In):∀ p∈blocksL l,p.1≤p.2∧p.2≤l.length:=by
 obtain ⟨h1,h2⟩:=headsF_lt l;unfold blocksL;generalize headsF l=hs at *;rw [cutF_eq];intro p hp;unfold cutK at hp;obtain ⟨i,hi,rfl⟩:=List.mem_map.1 hp;have hi':=List.mem_range.1 hi;have e1:hs.getD i 0=hs[i]:=by simp [List.getD,hi']
 have hb:=h2 hs[i] (List.getElem_mem hi');unfold cutA;dsimp only;rw [e1];split
 ·rename_i h3;have e2:hs.getD (i+1) 0=hs[i+1]:=by simp [List.getD,h3]
  have hb2:=h2 hs[i+1] (List.getElem_mem h3);have:=List.pairwise_iff_getElem.1 h1 i (i+1) hi' h3 (by omega);rw [e2];omega
 ·omega
theorem blocksL_len (l:List In):(blocksL l).length≤l.length:=by
 unfold blocksL;rw [cutF_eq];unfold cutK headsF;rw [List.length_map,List.length_range];split
 ·exact Nat.le_trans (List.length_filter_le _ _) (by simp)
 ·simp
def iM (m:List (Int×Int)):List (Int×Value):=m.map fun p=>(p.1,.int .i64 p.2)
theorem putK_iM:∀ (m:List (Int×Int)) (k v:Int),putK (iM m) k (.int .i64 v)=iM (putM m k v)
 | [],k,v=>rfl
 | (a,b)::m,k,v=>by
  have ih:=putK_iM m k v;unfold iM at ih ⊢;rw [List.map_cons,putK,putM];split
  ·rfl
  ·rw [ih];rfl
theorem atK_iM:∀ (m:List (Int×Int)) (k:Int),(atK (iM m) k).getD (.int .i64 0) = .int .i64 (newF m k)
 | [],k=>rfl
 | (a,b)::m,k=>by
  have ih:=atK_iM m k;unfold iM at ih ⊢;rw [List.map_cons,atK,newF];split
  ·rfl
  ·exact ih
structure Lx where
 mk ::
 (ca:Option Addr) (cc:Nat) (pa:Option Addr) (pc:Nat) (oa:Option Addr) (oc:Nat)
def laidV (g:Nat) (x:Lx) (s:Laid):List Value:=[.slice x.ca s.code.length x.cc,.slice x.pa s.places.length x.pc,.map (some g),.slice x.oa s.olds.length x.oc]
def laidH (b g:Nat) (x:Lx) (s:Laid):List Chunk:=[blk b (laidV g x s) 100,row x.ca x.cc 105 5 s.code.length (insC s.code),row x.pa x.pc 3 1 s.places.length (i64C s.places),mapC (Value.int .i64) g (iM s.anew),row x.oa x.oc 3 1 s.olds.length (i64C s.olds)]
theorem headRC (b g:Nat) (x:Lx) (s:Laid) (old:Nat) (hp:s.places.length≤1000000) (hc:s.code.length≤1000000000):FnC Tryz.prog 82 [.int .i64 (old:Int),.pointer (some ⟨b,0,none⟩)] (laidH b g x s) [] (fun _:Option Addr×Nat=>.tuple #[]) (fun y=>laidH b g { x with pa:=y.1,pc:=y.2 } (headG old s)) (fun _=>True):=by
 unfold laidH laidV headG;dsimp only;refine fn_intro Tryz.func82 Tryz.ntmps82 rfl rfl rfl (fun w0=>?_);refine rrs ?_;rw [putK_iM];refine rr ?_;intro b9 _;refine rr ?_;rintro ⟨pa,pc⟩ ⟨ph,_⟩;refine rr ?_;rw [← i64C_snoc,show s.places.length+1=(s.places++[(s.code.length:Int)]).length by simp];exact en (pa,pc) trivial
end Go.Proofs.YtkolmklfgbimoaaGreatDoor
