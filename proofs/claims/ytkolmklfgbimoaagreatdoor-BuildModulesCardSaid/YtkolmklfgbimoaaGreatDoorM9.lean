/- Texts of the proof, in their order: Rg2, Rg3, Rg4, Bd1, Bd2, Bd3, Pi1, Pi2, Pi3, Pi4, Pi5, Pi6, Pi7, Pi8, Dm1. -/
import Derived.Test.YtkolmklfgbimoaaGreatDoorM8
import Derived.Test.YtkolmklfgbimoaaGreatDoorM6
import Derived.Test.YtkolmklfgbimoaaGreatDoorM7
import Derived.Test.YtkolmklfgbimoaaGreatDoorM3
set_option linter.unusedVariables false
set_option linter.unusedSimpArgs false
set_option maxHeartbeats 16000000
set_option maxRecDepth 100000
namespace Go.Proofs.YtkolmklfgbimoaaGreatDoor
open Go Go.Sx Go.Sx.Chunk
def laid0:Laid:=⟨[],[],[],[]⟩
def laidK (l:List In) (k:Nat):Laid:=((blocksL l).take k).foldl (fun s b=>layB l b s) laid0
theorem laidK_succ {l:List In} {k:Nat} {p:Nat×Nat} (h:(blocksL l)[k]? = some p):laidK l (k+1)=layB l p (laidK l k):=by
 unfold laidK;rw [List.take_add_one,h,List.foldl_append];rfl
theorem laidK_len {l:List In} (hl:l.length≤4096):∀ k,(laidK l k).code.length≤k*8200∧(laidK l k).olds.length≤k*8200∧(laidK l k).places.length≤k
 | 0=>by unfold laidK laid0;simp
 | k+1=>by
  obtain ⟨h1,h2,h3⟩:=laidK_len hl k;cases hp:(blocksL l)[k]? with
  | none=>
   have:laidK l (k+1)=laidK l k:=by unfold laidK;rw [List.take_add_one,hp];simp
   rw [this];omega
  | some p=>
   rw [laidK_succ hp];have h4:=layF_len ((l.take p.2).drop p.1);have h5:((l.take p.2).drop p.1).length≤4096:=by rw [List.length_drop,List.length_take];omega
   unfold layB headG;dsimp only;rw [List.length_append,List.length_append,List.length_append,pickF_len,List.length_map,List.length_singleton];omega
def laidG (g:Nat) (x:Lx) (s:Laid):Value:=.agg #[.slice x.ca s.code.length x.cc,.slice x.pa s.places.length x.pc,.map (some g),.slice x.oa s.olds.length x.oc]
def laidR (g:Nat) (x:Lx) (s:Laid):List Chunk:=[row x.ca x.cc 105 5 s.code.length (insC s.code),row x.pa x.pc 3 1 s.places.length (i64C s.places),mapC (Value.int .i64) g (iM s.anew),row x.oa x.oc 3 1 s.olds.length (i64C s.olds)]
def lx0:Lx:=⟨none,0,none,0,none,0⟩
theorem blocksL_lt (l:List In):∀ p∈blocksL l,p.1<l.length:=by
 obtain ⟨h1,h2⟩:=headsF_lt l;unfold blocksL;generalize headsF l=hs at *;rw [cutF_eq];intro p hp;unfold cutK at hp;obtain ⟨i,hi,rfl⟩:=List.mem_map.1 hp;have hi':=List.mem_range.1 hi;unfold cutA;dsimp only;rw [show hs.getD i 0=hs[i] by simp [List.getD,hi']];exact h2 _ (List.getElem_mem hi')
theorem blC_all {l:List (Nat×Nat)} {k:Nat} {p:Nat×Nat} (h:l[k]? = some p) (n:Nat) (hn:n=k*2):((blC l).drop n).take 2=blV p:=by subst hn;exact flat_get (cells:=blV) (sz:=2) (fun _=>rfl) h
theorem insC_drop (l:List In) (k:Nat):insC (l.drop k)=(insC l).drop (k*5):=by
 induction k generalizing l with
 | zero=>simp
 | succ k ih=>
  cases l with
  | nil=>simp [insC]
  | cons a l=>
   have h1:insC (a::l)=inV a++insC l:=rfl;rw [List.drop_succ_cons,h1,ih,show (k+1)*5=(inV a).length+k*5 by simp [inV];omega,List.drop_length_add_append]
theorem layRC (la:Option Addr) (lc:Nat) (l:List In) (hlc:l.length≤lc) (hl:l.length≤4096):FnC Tryz.prog 39 [.slice la l.length lc] [] [rng la (insC l)] (fun y:Nat×Lx=>laidG y.1 y.2 (layAll l)) (fun y=>laidR y.1 y.2 (layAll l)) (fun _=>True):=by
 have hb:=blocksC la lc l (by omega);have hcl:=insC_len l;have hbl:=blocksL_len l;have hbm:=blocksL_mem l;have hbc:=blC_len (blocksL l);refine fn_intro Tryz.func39 Tryz.ntmps39 rfl rfl rfl (fun w0=>?_);try simp only [Sx.ap1,Sx.ap2,Sx.ap3]
 have hlk:=fun k=>laidK_len hl k
 have hblt:=blocksL_lt l;refine rr ?_;intro b2 _;refine rr ?_;intro g _;refine rr ?_;intro b3 _;refine rr ?_;refine cl (hb) ?_;intro ⟨za,zc⟩ _;refine rrs ?_;refine hv (laidH b3 g lx0 (laidK l 0)++[row za zc 165 2 (blocksL l).length (blC (blocksL l)),blk b2 [.slice none 0 0,.slice none 0 0,.map none,.slice none 0 0] 100,rng la (insC l)]) ?_ (hp:=by unfold laidH laidV lx0 laidK laid0 mapC iM;(repeat (first | exact Has.nil | (apply Has.cons;focus ((repeat (first | exact pick_here | apply pick_there));done)) | apply Has.nrow | apply Has.gen0)));unfold laidH laidV;simp only [List.cons_append,List.nil_append];refine lo [0,2,3,4,16,17] (fun y:Nat×Lx=>[(18,.int .i64 (y.1:Int))]) (fun y=>[(0,blk b3 [.slice y.2.ca (laidK l y.1).code.length y.2.cc,.slice y.2.pa (laidK l y.1).places.length y.2.pc,.map (some g),.slice y.2.oa (laidK l y.1).olds.length y.2.oc] 100),(1,row y.2.ca y.2.cc 105 5 (laidK l y.1).code.length (insC (laidK l y.1).code)),(2,row y.2.pa y.2.pc 3 1 (laidK l y.1).places.length (i64C (laidK l y.1).places)),(3,mapC (Value.int .i64) g (iM (laidK l y.1).anew)),(4,row y.2.oa y.2.oc 3 1 (laidK l y.1).olds.length (i64C (laidK l y.1).olds))]) (fun y=>y.1≤(blocksL l).length) (fun y=>(blocksL l).length-y.1) (0,lx0) (Nat.zero_le _) ?_;rintro ⟨k,x⟩ hk K1 hK1;dsimp only at hk ⊢;obtain ⟨hk1,hk2,hk3⟩:=hlk k;by_cases hlt:k<(blocksL l).length
 ·obtain ⟨⟨fr,tq⟩,hp⟩:=some_at hlt;have hps:=laidK_succ hp;have hpm:=hbm _ (List.mem_of_getElem? hp);have hpl:=hblt _ (List.mem_of_getElem? hp);dsimp only at hpm hpl;have hpA:((blC (blocksL l)).drop ((k:Int).toNat*2)).take 2=[.int .i64 (fr:Int),.int .i64 (tq:Int)]:=blC_all hp _ (by omega);have hpA2:((blC (blocksL l)).drop (0+(k:Int).toNat*2)).take 2=[.int .i64 (fr:Int),.int .i64 (tq:Int)]:=blC_all hp _ (by omega);have hhd:=headRC b3 g x (laidK l k) fr (by omega) (by omega);generalize laidK l k=s at *;unfold laidH laidV headG at hhd;dsimp only at hhd;refine w_use (fun w hw=>(hw.pick 5 rfl).row_some (by first | omega | decide | (simp;done) | (simp <;> omega))) ?_;rintro ⟨g1,rfl⟩;refine w_use (fun w hw=>(hw.pick 7 rfl).rng_some (by omega)) ?_;rintro ⟨g2,rfl⟩;refine rr ?_;intro b6 _;refine rr ?_;refine clv (hhd) ?_;intro ⟨pa2,pc2⟩ _;refine rrs ?_
  have hsv:sliceV (some g2) lc 5 ((some (fr:Int)).getD 0).toNat ((some (tq:Int)).getD (l.length:Int)).toNat = .slice (some (g2.add (fr*5))) (tq-fr) (lc-fr):=by
   unfold sliceV;simp only [Option.getD_some,Int.toNat_natCast];rw [if_neg (by omega)];rfl
  have hll:((l.take tq).drop fr).length=tq-fr:=by rw [List.length_drop,List.length_take];omega
  have hcs:insC ((l.take tq).drop fr)=((insC l).take (tq*5)).drop (fr*5):=by rw [insC_drop,insC_take]
  have hps2:laidK l (k+1)={ headG fr s with code:=(headG fr s).code++pickF ((l.take tq).drop fr) (layF ((l.take tq).drop fr)),olds:=(headG fr s).olds++(layF ((l.take tq).drop fr)).map fun n=>if 0≤n then (fr:Int)+n else -1 }:=hps;rw [hsv];refine w_turn (fun w hw=>hw.look (c:=rng (some (g2.add (fr*5))) (insC ((l.take tq).drop fr))) rfl (by rw [hcs];exact (rng_drop _).one ((rng_take _).one (prov_mem (List.mem_filter.2 ⟨nthC_mem (i:=8) rfl,rfl⟩))))) ?_;generalize (l.take tq).drop fr=sl at *;generalize g2.add (fr*5)=g3 at *;have hly:=layC (some g3) (lc-fr) sl (by omega) (by omega);have hlf:=layF_len sl;have hlm:=layF_mem sl;have hpi:=fun oa oc=>pickC (some g3) (lc-fr) sl oa oc (layF sl) (by omega) (by omega)
  rw [hll] at hly hpi;have hpkl:=pickF_len sl (layF sl);generalize layF sl=o at *;generalize pickF sl o=pk at *;refine cl (hly) ?_;intro ⟨oa,oc⟩ _;refine rrs ?_;refine dx [0,1,2,3,4,5,6,7] [1] [] ?_;refine rr ?_;have hone:=insC_one pk;refine cld (hpi oa oc) ?_;intro ⟨qa,qc⟩ _;refine rrs ?_;rintro ⟨ua,uc⟩ hu
  have hcd:insC s.code++(insC pk).take (o.length*5)=insC (s.code++pk):=by
   rw [List.take_of_length_le (by rw [insC_len,hpkl];exact Nat.le_refl _)];simp [insC]
  rw [hcd,show s.code.length+o.length=(s.code++pk).length by rw [List.length_append,hpkl]];dsimp only;refine rr ?_;obtain ⟨fq,hfq⟩:∃ fq:Int→Int,fq=(fun n=>if 0≤n then (fr:Int)+n else -1):=⟨_,rfl⟩
  rw [← hfq] at hps2;have hoi:=i64C_len o;refine hv [blk b3 [.slice ua (s.code++pk).length uc,.slice pa2 (s.places++[(s.code.length:Int)]).length pc2,.map (some g),.slice x.oa (s.olds++(o.take 0).map fq).length x.oc] 100,row ua uc 105 5 (s.code++pk).length (insC (s.code++pk)),row pa2 pc2 3 1 (s.places++[(s.code.length:Int)]).length (i64C (s.places++[(s.code.length:Int)])),mapC (Value.int .i64) g (iM (putM s.anew (fr:Int) (s.code.length:Int))),row x.oa x.oc 3 1 (s.olds++(o.take 0).map fq).length (i64C (s.olds++(o.take 0).map fq)),row oa oc 3 1 o.length (i64C o),blk b6 [.int .i64 (fr:Int),.int .i64 (tq:Int)] 165,row (some ⟨g1,0,none⟩) zc 165 2 (blocksL l).length (blC (blocksL l)),blk b2 [.slice none 0 0,.slice none 0 0,.map none,.slice none 0 0] 100,rng (some g2) (insC l)] ?_ (hp:=by rw [List.take_zero,List.map_nil,List.append_nil];(repeat (first | exact Has.nil | (apply Has.cons;focus ((repeat (first | exact pick_here | apply pick_there));done)) | apply Has.nrow | apply Has.gen0)));refine lo [0,2,3,4,6,16,17,18,41,42] (fun y:Nat×Option Addr×Nat=>[(43,.int .i64 (y.1:Int))]) (fun y=>[(0,blk b3 [.slice ua (s.code++pk).length uc,.slice pa2 (s.places++[(s.code.length:Int)]).length pc2,.map (some g),.slice y.2.1 (s.olds++(o.take y.1).map fq).length y.2.2] 100),(4,row y.2.1 y.2.2 3 1 (s.olds++(o.take y.1).map fq).length (i64C (s.olds++(o.take y.1).map fq)))]) (fun y=>y.1≤o.length) (fun y=>o.length-y.1) (0,x.oa,x.oc) (Nat.zero_le _) ?_;rintro ⟨j,va,vc⟩ hj K2 hK2;dsimp only at hj ⊢;by_cases hjl:j<o.length
  ·obtain ⟨v,hvj⟩:=some_at hjl;have hvm:=hlm v (List.mem_of_getElem? hvj)
   have hsnq:(o.take (j+1)).map fq=(o.take j).map fq++[fq v]:=by
    rw [List.take_add_one,hvj,List.map_append];rfl
   have hfv:fq v=if 0≤v then (fr:Int)+v else -1:=by rw [hfq]
   have hge:(i64C o)[0+(j:Int).toNat*1]? = some (.int .i64 v):=by rw [show 0+(j:Int).toNat*1=j by omega];exact i64C_get hvj
   have holl:(s.olds++(o.take j).map fq).length≤40000000:=by
    rw [List.length_append,List.length_map,List.length_take];omega
   have hnx:s.olds++(o.take (j+1)).map fq=s.olds++(o.take j).map fq++[fq v]:=by rw [hsnq,List.append_assoc]
   refine w_use (fun w hw=>(hw.pick 5 rfl).row_some (by first | omega | decide | (simp;done) | (simp <;> omega))) ?_;rintro ⟨g5,rfl⟩;by_cases hv0:0≤v
   ·rw [if_pos hv0] at hfv;refine rr ?_;intro b9 _;refine rr ?_;rintro ⟨pa,pc⟩ ⟨ph,_⟩;refine rr ?_;rw [← hfv,← i64C_snoc,← hnx,show (s.olds++(o.take j).map fq).length+1=(s.olds++(o.take (j+1)).map fq).length by rw [hnx,List.length_append (bs:=[fq v])];rfl];exact ro hK2 (j+1,pa,pc) (by dsimp only;omega)
   ·rw [if_neg hv0] at hfv;refine rr ?_;intro b9 _;refine rr ?_;rintro ⟨pa,pc⟩ ⟨ph,_⟩;refine rr ?_;rw [← hfv,← i64C_snoc,← hnx,show (s.olds++(o.take j).map fq).length+1=(s.olds++(o.take (j+1)).map fq).length by rw [hnx,List.length_append (bs:=[fq v])];rfl];exact ro hK2 (j+1,pa,pc) (by dsimp only;omega)
  ·obtain rfl:j=o.length:=by omega
   have e1:s.code++pk=(laidK l (k+1)).code:=by rw [hps2];rfl
   have e2:s.places++[(s.code.length:Int)]=(laidK l (k+1)).places:=by rw [hps2];rfl
   have e3:putM s.anew (fr:Int) (s.code.length:Int)=(laidK l (k+1)).anew:=by rw [hps2];rfl
   have e4:s.olds++(o.take o.length).map fq=(laidK l (k+1)).olds:=by rw [hps2,List.take_length];rfl
   refine rr ?_;rw [e1,e2,e3,e4];exact ro hK1 (k+1,⟨ua,uc,pa2,pc2,va,vc⟩) (by dsimp only;omega)
 ·obtain rfl:k=(blocksL l).length:=by omega
  have hhd:=headRC b3 g x (laidK l (blocksL l).length) l.length (by omega) (by omega);have hla:layAll l=headG l.length (laidK l (blocksL l).length):=by unfold layAll laidK laid0;rw [List.take_length]
  rw [hla];unfold laidH laidV at hhd;dsimp only at hhd;refine rr ?_;refine clv (hhd) ?_;intro ⟨pa2,pc2⟩ _;refine rrs ?_;unfold laidG laidR;exact en (g,⟨x.ca,x.cc,pa2,pc2,x.oa,x.oc⟩) trivial
end Go.Proofs.YtkolmklfgbimoaaGreatDoor
namespace Go.Proofs.YtkolmklfgbimoaaGreatDoor
open Go
theorem putM_mem {m:List (Int×Int)} {k v:Int} {B:Int} (h:∀ p∈m,0≤p.2∧p.2≤B) (hv:0≤v∧v≤B):∀ p∈putM m k v,0≤p.2∧p.2≤B:=by
 induction m with
 | nil=>intro p hp;rw [putM] at hp;rw [List.mem_singleton.1 hp];exact hv
 | cons a m ih=>
  obtain ⟨x,y⟩:=a;intro p hp;rw [putM] at hp;split at hp
  ·rcases List.mem_cons.1 hp with rfl | hp
   ·exact hv
   ·exact h p (by simp [hp])
  ·rcases List.mem_cons.1 hp with rfl | hp
   ·exact h _ (by simp)
   ·exact ih (fun q hq=>h q (by simp [hq])) p hp
theorem newF_le {m:List (Int×Int)} {B:Int} (hB:0≤B) (h:∀ p∈m,0≤p.2∧p.2≤B) (k:Int):0≤newF m k∧newF m k≤B:=by
 induction m with
 | nil=>rw [newF];omega
 | cons a m ih=>
  obtain ⟨x,y⟩:=a;rw [newF];split
  ·exact h (x,y) (by simp)
  ·exact ih (fun q hq=>h q (by simp [hq]))
structure LaidOk (l:List In) (s:Laid):Prop where
 len:s.olds.length=s.code.length
 olds:∀ o∈s.olds,o = -1∨(0≤o∧o<(l.length:Int))
 anew:∀ p∈s.anew,0≤p.2∧p.2≤40000000
theorem head_ok {l:List In} {s:Laid} {old:Nat} (h:LaidOk l s) (hc:s.code.length≤40000000):LaidOk l (headG old s):=by
 obtain ⟨h1,h2,h3⟩:=h;unfold headG;exact ⟨h1,h2,putM_mem h3 ⟨by omega,by omega⟩⟩
theorem laidK_ok {l:List In} (hl:l.length≤4096):∀ k,k≤(blocksL l).length→LaidOk l (laidK l k)
 | 0,_=>by
  unfold laidK laid0;exact ⟨rfl,fun o ho=>by simp at ho,fun p hp=>by simp at hp⟩
 | k+1,hk=>by
  have ih:=laidK_ok hl k (by omega);obtain ⟨hk1,hk2,hk3⟩:=laidK_len hl k;have hbn:=blocksL_len l;obtain ⟨⟨fr,tq⟩,hp⟩:∃ p,(blocksL l)[k]? = some p:=⟨_,List.getElem?_eq_getElem (by omega)⟩
  have hpm:=blocksL_mem l _ (List.mem_of_getElem? hp);dsimp only at hpm;rw [laidK_succ hp];have hh:=head_ok (old:=fr) ih (by omega);generalize laidK l k=s at *;unfold layB;dsimp only;have hll:((l.take tq).drop fr).length=tq-fr:=by rw [List.length_drop,List.length_take];omega
  have hlm:=layF_mem ((l.take tq).drop fr);obtain ⟨g1,g2,g3⟩:=hh;refine ⟨?_,?_,g3⟩
  ·show ((headG fr s).olds++_).length=((headG fr s).code++_).length
   rw [List.length_append,List.length_append,List.length_map,pickF_len,g1]
  ·intro o ho;rcases List.mem_append.1 ho with ho | ho
   ·exact g2 o ho
   ·obtain ⟨n,hn,rfl⟩:=List.mem_map.1 ho;have:=hlm n hn;split
    ·right;omega
    ·left;rfl
theorem layAll_ok {l:List In} (hl:l.length≤4096):LaidOk l (layAll l):=by
 have hbn:=blocksL_len l;have h:=laidK_ok hl (blocksL l).length (Nat.le_refl _);obtain ⟨hk1,hk2,hk3⟩:=laidK_len hl (blocksL l).length;have hla:layAll l=headG l.length (laidK l (blocksL l).length):=by unfold layAll laidK laid0;rw [List.take_length]
 rw [hla];exact head_ok h (by omega)
structure AimI (l:List In) (m:List (Int×Int)) (olds:List Int) (c0:List In) (k:Nat) (cs:List In):Prop where
 len:cs.length=c0.length
 le:k≤olds.length
 eq:aimG l m 0 olds c0=(aimG l m k (olds.drop k) (cs.drop k)).map fun r=>cs.take k++r
theorem AimI.start (l:List In) (m:List (Int×Int)) (olds:List Int) (c0:List In):AimI l m olds c0 0 c0:=
 ⟨rfl,Nat.zero_le _,by rw [List.drop_zero,List.drop_zero,List.take_zero];simp⟩
theorem AimI.bad {l:List In} {m:List (Int×Int)} {olds:List Int} {c0 cs:List In} {k:Nat} {o:Int} {j:In} (h:AimI l m olds c0 k cs) (ho:olds[k]? = some o) (hj:cs[k]? = some j) (hn:aimF l m k o j=none):aimG l m 0 olds c0=none:=by
 rw [h.eq,drop_at ho,drop_at hj,aimG,hn];rfl
theorem AimI.step {l:List In} {m:List (Int×Int)} {olds:List Int} {c0 cs:List In} {k:Nat} {o:Int} {j i:In} (h:AimI l m olds c0 k cs) (ho:olds[k]? = some o) (hj:cs[k]? = some j) (hn:aimF l m k o j=some i):AimI l m olds c0 (k+1) (cs.set k i):=by
 have hk:k<olds.length:=(List.getElem?_eq_some_iff.1 ho).1;have hkc:k<cs.length:=(List.getElem?_eq_some_iff.1 hj).1;refine ⟨by rw [List.length_set];exact h.len,hk,?_⟩;rw [h.eq,drop_at ho,drop_at hj,aimG,hn];dsimp only;rw [List.drop_set_of_lt (by omega),List.take_add_one,List.getElem?_set_self hkc,List.take_set_of_le (Nat.le_refl _)];cases aimG l m (k+1) (olds.drop (k+1)) (cs.drop (k+1)) with
 | none=>rfl
 | some r=>simp
theorem AimI.same {l:List In} {m:List (Int×Int)} {olds:List Int} {c0 cs:List In} {k:Nat} {o:Int} {j:In} (h:AimI l m olds c0 k cs) (ho:olds[k]? = some o) (hj:cs[k]? = some j) (hn:aimF l m k o j=some j):AimI l m olds c0 (k+1) cs:=by
 have h1:=h.step ho hj hn;have hkc:k<cs.length:=(List.getElem?_eq_some_iff.1 hj).1
 rwa [show cs.set k j=cs from List.ext_getElem? (fun n=>by
  by_cases hn:k=n
  ·subst hn;rw [List.getElem?_set_self hkc,hj]
  ·rw [List.getElem?_set_ne hn])] at h1
theorem AimI.done {l:List In} {m:List (Int×Int)} {olds:List Int} {c0 cs:List In} (h:AimI l m olds c0 olds.length cs):aimG l m 0 olds c0=some cs:=by
 rw [h.eq,List.drop_length];have:∀ n c,aimG l m n [] c=some c:=fun n c=>by unfold aimG;rfl
 rw [this];simp
end Go.Proofs.YtkolmklfgbimoaaGreatDoor
namespace Go.Proofs.YtkolmklfgbimoaaGreatDoor
open Go Go.Sx Go.Sx.Chunk
def reoV (r:List In×List Int×Int) (z:(Option Addr×Nat)×(Option Addr×Nat)):Value:=.tuple #[.slice z.1.1 r.1.length z.1.2,.slice z.2.1 r.2.1.length z.2.2,.int .i64 r.2.2]
def reoH (r:List In×List Int×Int) (z:(Option Addr×Nat)×(Option Addr×Nat)):List Chunk:=[row z.1.1 z.1.2 105 5 r.1.length (insC r.1),row z.2.1 z.2.2 3 1 r.2.1.length (i64C r.2.1)]
theorem reorgC (la:Option Addr) (lc:Nat) (l:List In) (hlc:l.length≤lc) (hl:l.length≤1000000):FnC Tryz.prog 15 [.slice la l.length lc] [] [rng la (insC l)] (fun z=>reoV (reorgF l) z) (fun z=>reoH (reorgF l) z) (fun _=>True):=by
 have hcl:=insC_len l;have hfi:=fitC la lc l hl;by_cases hfit:fitF l=true
 ·rw [hfit] at hfi
  have hl4:l.length≤4096:=by
   unfold fitF at hfit;rw [Bool.and_eq_true] at hfit;exact of_decide_eq_true hfit.1
  have hly:=layRC la lc l hlc hl4;obtain ⟨hs1,hs2,hs3⟩:=layAll_ok hl4
  have hre:reorgF l=(if (layAll l).code.length>4096 then (([],[],4):List In×List Int×Int) else match aimG l (layAll l).anew 0 (layAll l).olds (layAll l).code with
   | none=>([],[],3)
   | some c=>(c,(layAll l).places,0)):=by unfold reorgF;rw [if_pos hfit];rfl
  rw [hre];generalize layAll l=s at *;have hnb:=newF_le (B:=40000000) (by decide) hs3;unfold laidG laidR at hly;by_cases hbig:s.code.length>4096
  ·rw [if_pos hbig];unfold reoV reoH;refine fn_intro Tryz.func15 Tryz.ntmps15 rfl rfl rfl (fun w0=>?_);refine rrs ?_;refine cl (hfi) ?_;intro _ _;refine rrs ?_;refine cl (hly) ?_;intro ⟨g,x⟩ _;refine rrs ?_;intro b5 _;refine rr ?_;exact en ((none,0),(none,0)) trivial
  ·rw [if_neg hbig];have hol:=i64C_len s.olds;refine fn_intro Tryz.func15 Tryz.ntmps15 rfl rfl rfl (fun w0=>?_);refine rrs ?_;refine cl (hfi) ?_;intro _ _;refine rrs ?_;refine cl (hly) ?_;intro ⟨g,⟨xca,xcc,xpa,xpc,xoa,xoc⟩⟩ _;refine rrs ?_;intro b5 _;refine rr ?_;refine lo [0,5,21,22] (fun y:Nat×List In=>[(23,.int .i64 (y.1:Int))]) (fun y=>[(1,row xca xcc 105 5 s.code.length (insC y.2))]) (fun y=>AimI l s.anew s.olds s.code y.1 y.2) (fun y=>s.olds.length-y.1) (0,s.code) (AimI.start _ _ _ _) ?_;rintro ⟨k,cs⟩ hx K1 hK1;try dsimp only at hx ⊢
   have hcsl:=hx.len;have hkl:=hx.le;by_cases hlt:k<s.olds.length
   ·obtain ⟨o,ho⟩:=some_at hlt;have hor:=hs2 o (List.mem_of_getElem? ho);obtain ⟨j,hj⟩:=some_at (l:=cs) (k:=k) (by omega);have hgo:(i64C s.olds)[0+(k:Int).toNat*1]? = some (.int .i64 o):=by rw [show 0+(k:Int).toNat*1=k by omega];exact i64C_get ho
    refine w_use (fun w hw=>(hw.pick 4 rfl).row_some (by first | omega | decide | (simp;done) | (simp <;> omega))) ?_;rintro ⟨g4,rfl⟩;by_cases ho0:o<0
    ·have hsm:=hx.same ho hj (by unfold aimF;rw [if_pos ho0]);refine rr ?_;exact ro hK1 (k+1,cs) hsm
    ·obtain ⟨n,rfl⟩:∃ n:Nat,o=(n:Int):=⟨o.toNat,by omega⟩
     have hnl:n<l.length:=by omega
     obtain ⟨e,he⟩:=some_at hnl
     have haim:aimF l s.anew k (n:Int) j=(match targetF e (n:Int) with
      | none=>some j
      | some t=>if goodI { j with imm:=if j.op=15∨j.op=16 then newF s.anew t-((k:Int)+1) else newF s.anew t } then some { j with imm:=if j.op=15∨j.op=16 then newF s.anew t-((k:Int)+1) else newF s.anew t } else none):=by
      unfold aimF;rw [if_neg ho0,show l.getD ((n:Int)).toNat nopI=e by rw [Int.toNat_natCast];simp [List.getD,he]];rfl
     have htc:=targetC e (n:Int) ⟨by omega,by omega⟩;have heA:((insC l).drop ((n:Int).toNat*5)).take 5=[.int .i64 e.op,.int .i64 e.a,.int .i64 e.b,.int .i64 e.c,.int .i64 e.imm]:=insC_all he _ (by omega);have heL:=insC_len l;refine w_use (fun w hw=>(hw.pick 5 rfl).rng_some (by omega)) ?_;rintro ⟨g2,rfl⟩;unfold inG at htc;refine rr ?_;refine cl (htc) ?_;intro _ _;try simp only [Sx.ap1,Sx.ap2,Sx.ap3]
     cases ht:targetF e (n:Int) with
     | none=>
      rw [ht] at haim;have hsm:=hx.same ho hj haim;dsimp only [Option.isSome_none,Option.getD_none];refine rr ?_;exact ro hK1 (k+1,cs) hsm
     | some tq=>
      rw [ht] at haim;dsimp only at haim;have hnq:=hnb tq;dsimp only [Option.isSome_some,Option.getD_some];have hjA:((insC cs).drop (0+(k:Int).toNat*5)).take 5=[.int .i64 j.op,.int .i64 j.a,.int .i64 j.b,.int .i64 j.c,.int .i64 j.imm]:=insC_all hj _ (by omega);have hjL:=insC_len cs;refine w_use (fun w hw=>(hw.pick 1 rfl).row_some (by first | omega | decide | (simp;done) | (simp <;> omega))) ?_;rintro ⟨g1,rfl⟩;refine rr ?_;intro b10 _;refine rr ?_
      have hlk:lookV false (Value.int .i64 0) (atK (iM s.anew) tq) = .int .i64 (newF s.anew tq):=by
       have h:=atK_iM s.anew tq;unfold lookV;cases hq:atK (iM s.anew) tq with
       | none=>rw [hq] at h;exact h
       | some u=>rw [hq] at h;exact h
      rw [hlk];by_cases hb1:j.op=15∨j.op=16
      ·rw [if_pos hb1] at haim;rcases hb1 with hb2 | hb2
       ·skip
        have hrc:=rightIC ⟨j.op,j.a,j.b,j.c,newF s.anew tq-((k:Int)+1)⟩;unfold inG at hrc;dsimp only at hrc;rw [show ({ j with imm:=newF s.anew tq-((k:Int)+1) }:In)=⟨j.op,j.a,j.b,j.c,newF s.anew tq-((k:Int)+1)⟩ from rfl] at haim;refine rr ?_;refine cl (hrc) ?_;intro _ _;try simp only [Sx.ap1,Sx.ap2,Sx.ap3]
        cases hgd:goodI ⟨j.op,j.a,j.b,j.c,newF s.anew tq-((k:Int)+1)⟩ with
        | false=>
         rw [hgd,if_neg (by simp)] at haim;rw [hx.bad ho hj haim];dsimp only;unfold reoV reoH;refine rr ?_;exact en ((none,0),(none,0)) trivial
        | true=>
         rw [hgd,if_pos rfl] at haim;have hst:=hx.step ho hj haim;have hfs:=flat_set (cells:=inV) (sz:=5) (fun _=>rfl) (l:=cs) (k:=k) (⟨j.op,j.a,j.b,j.c,newF s.anew tq-((k:Int)+1)⟩:In) (by omega)
         have hrow:(insC cs).take (0+(k:Int).toNat*5) ++ #[Value.int .i64 j.op,.int .i64 j.a,.int .i64 j.b,.int .i64 j.c,.int .i64 (newF s.anew tq-((k:Int)+1))].toList++(insC cs).drop (0+(k:Int).toNat*5+(#[Value.int .i64 j.op,.int .i64 j.a,.int .i64 j.b,.int .i64 j.c,.int .i64 (newF s.anew tq-((k:Int)+1))].toList).length)=insC (cs.set k ⟨j.op,j.a,j.b,j.c,newF s.anew tq-((k:Int)+1)⟩):=by
          rw [show 0+(k:Int).toNat*5=k*5 by omega];exact hfs
         refine rr ?_;rw [hrow];exact ro hK1 (k+1,cs.set k ⟨j.op,j.a,j.b,j.c,newF s.anew tq-((k:Int)+1)⟩) hst
       ·have hb3:¬ j.op=15:=by omega
        have hrc:=rightIC ⟨j.op,j.a,j.b,j.c,newF s.anew tq-((k:Int)+1)⟩;unfold inG at hrc;dsimp only at hrc;rw [show ({ j with imm:=newF s.anew tq-((k:Int)+1) }:In)=⟨j.op,j.a,j.b,j.c,newF s.anew tq-((k:Int)+1)⟩ from rfl] at haim;refine rr ?_;refine cl (hrc) ?_;intro _ _;try simp only [Sx.ap1,Sx.ap2,Sx.ap3]
        cases hgd:goodI ⟨j.op,j.a,j.b,j.c,newF s.anew tq-((k:Int)+1)⟩ with
        | false=>
         rw [hgd,if_neg (by simp)] at haim;rw [hx.bad ho hj haim];dsimp only;unfold reoV reoH;refine rr ?_;exact en ((none,0),(none,0)) trivial
        | true=>
         rw [hgd,if_pos rfl] at haim;have hst:=hx.step ho hj haim;have hfs:=flat_set (cells:=inV) (sz:=5) (fun _=>rfl) (l:=cs) (k:=k) (⟨j.op,j.a,j.b,j.c,newF s.anew tq-((k:Int)+1)⟩:In) (by omega)
         have hrow:(insC cs).take (0+(k:Int).toNat*5) ++ #[Value.int .i64 j.op,.int .i64 j.a,.int .i64 j.b,.int .i64 j.c,.int .i64 (newF s.anew tq-((k:Int)+1))].toList++(insC cs).drop (0+(k:Int).toNat*5+(#[Value.int .i64 j.op,.int .i64 j.a,.int .i64 j.b,.int .i64 j.c,.int .i64 (newF s.anew tq-((k:Int)+1))].toList).length)=insC (cs.set k ⟨j.op,j.a,j.b,j.c,newF s.anew tq-((k:Int)+1)⟩):=by
          rw [show 0+(k:Int).toNat*5=k*5 by omega];exact hfs
         refine rr ?_;rw [hrow];exact ro hK1 (k+1,cs.set k ⟨j.op,j.a,j.b,j.c,newF s.anew tq-((k:Int)+1)⟩) hst
      ·rw [if_neg hb1] at haim;have hb2:¬ j.op=15:=fun h=>hb1 (.inl h)
       have hb3:¬ j.op=16:=fun h=>hb1 (.inr h)
       have hrc:=rightIC ⟨j.op,j.a,j.b,j.c,newF s.anew tq⟩;unfold inG at hrc;dsimp only at hrc;rw [show ({ j with imm:=newF s.anew tq }:In)=⟨j.op,j.a,j.b,j.c,newF s.anew tq⟩ from rfl] at haim;refine rr ?_;refine cl (hrc) ?_;intro _ _;try simp only [Sx.ap1,Sx.ap2,Sx.ap3]
       cases hgd:goodI ⟨j.op,j.a,j.b,j.c,newF s.anew tq⟩ with
       | false=>
        rw [hgd,if_neg (by simp)] at haim;rw [hx.bad ho hj haim];dsimp only;unfold reoV reoH;refine rr ?_;exact en ((none,0),(none,0)) trivial
       | true=>
        rw [hgd,if_pos rfl] at haim;have hst:=hx.step ho hj haim;have hfs:=flat_set (cells:=inV) (sz:=5) (fun _=>rfl) (l:=cs) (k:=k) (⟨j.op,j.a,j.b,j.c,newF s.anew tq⟩:In) (by omega)
        have hrow:(insC cs).take (0+(k:Int).toNat*5) ++ #[Value.int .i64 j.op,.int .i64 j.a,.int .i64 j.b,.int .i64 j.c,.int .i64 (newF s.anew tq)].toList++(insC cs).drop (0+(k:Int).toNat*5+(#[Value.int .i64 j.op,.int .i64 j.a,.int .i64 j.b,.int .i64 j.c,.int .i64 (newF s.anew tq)].toList).length)=insC (cs.set k ⟨j.op,j.a,j.b,j.c,newF s.anew tq⟩):=by
         rw [show 0+(k:Int).toNat*5=k*5 by omega];exact hfs
        refine rr ?_;rw [hrow];exact ro hK1 (k+1,cs.set k ⟨j.op,j.a,j.b,j.c,newF s.anew tq⟩) hst
   ·obtain rfl:k=s.olds.length:=by omega
    rw [hx.done];dsimp only;unfold reoV reoH;dsimp only;refine rr ?_;refine dr [0,1,2,3,4,5,6] [1,3] [0] ?_;refine rr ?_;rw [← hcsl];exact en ((xca,xcc),(xpa,xpc)) trivial
 ·have hre:reorgF l=([],[],1):=by unfold reorgF;rw [if_neg hfit]
  rw [hre];rw [show fitF l=false by simpa using hfit] at hfi;unfold reoV reoH;refine fn_intro Tryz.func15 Tryz.ntmps15 rfl rfl rfl (fun w0=>?_);refine rrs ?_;refine cl (hfi) ?_;intro _ _;refine rrs ?_;exact en ((none,0),(none,0)) trivial
def canon (o:Ob):Ob:=⟨o.name,none,0,o.code,o.data,none,0,o.exps,none,0,o.imps,none,0,o.pats⟩
theorem canon_any (l:List Ob):(l.map canon).any (fun o => !goodO o)=l.any (fun o => !goodO o):=by
 rw [List.any_map];rfl
theorem canon_names:∀ (l:List Ob) (seen:List ByteArray) (s:List Sym) (m:Int),namesF seen s m (l.map canon)=namesF seen s m l
 | [],_,_,_=>rfl
 | o::l,seen,s,m=>by
  simp only [List.map_cons,namesF];have ih:=canon_names l;show (if inL o.name seen then none else match expsF m s o.exps with | none=>none | some s'=>namesF (seen++[o.name]) s' (m+o.code.length) (l.map canon))=_
  cases inL o.name seen with
  | true=>rfl
  | false=>
   cases expsF m s o.exps with
   | none=>rfl
   | some s'=>simp only [ih]
theorem canon_code (l:List Ob):codeF (l.map canon)=codeF l:=by unfold codeF;rw [List.flatMap_map];rfl
theorem canon_data (l:List Ob):dataF (l.map canon)=dataF l:=by unfold dataF;rw [List.map_map];rfl
theorem canon_at (l:List Ob) (k:Nat):atF (l.map canon) k=atF l k:=by unfold atF;rw [← List.map_take,List.map_map];rfl
theorem canon_base (l:List Ob) (k:Nat):baseK (l.map canon) k=baseK l k:=by
 unfold baseK;refine List.map_congr_left fun i _=>?_
 rw [canon_at,← List.map_take,canon_data]
theorem canon_objs (sy:List Sym) (all mem:Int):∀ (l:List Ob) (bs:List Ba) (code:List In),objsF sy all mem code (bs.zip (l.map canon))=objsF sy all mem code (bs.zip l)
 | [],bs,code=>by simp
 | o::l,[],code=>rfl
 | o::l,b::bs,code=>by
  simp only [List.map_cons,List.zip_cons_cons,objsF_cons,canon_objs sy all mem l bs];rfl
theorem linkF_canon (l:List Ob) (mem:Int):linkF (l.map canon) mem=linkF l mem:=by
 unfold linkF;rw [List.length_map,canon_any,canon_names,canon_code,canon_data,canon_base];simp only [canon_objs]
theorem linkF_same {l l':List Ob} (h:l'.map canon=l.map canon) (mem:Int):linkF l' mem=linkF l mem:=by
 rw [← linkF_canon l',h,linkF_canon]
def obT (s:ByteArray):Ob:=Cm.obOf (Cm.compO (Sc.txt s)) Cm.ax0
def badF:Nat→List ByteArray→Option (Nat×Int×Int)
 | _,[]=>none
 | k,s::l=>if (Cm.compF (Sc.txt s)).2.2≠0 then some (k,(Cm.compF (Sc.txt s)).2.1,(Cm.compF (Sc.txt s)).2.2) else badF (k+1) l
structure Bu where
 mk ::
 (ic:List In) (data:Int) (code:List In) (mem n pl e:Int)
def buildF (texts:List ByteArray) (mem:Int):Bu:=match badF 0 texts with
 | some (k,pl,e)=>⟨[],0,[],0,(k:Int),pl,e⟩
 | none=>
  let r:=linkF (texts.map obT) mem
  if r.2.2≠0 then ⟨[],0,[],0,(texts.length:Int),0,r.2.2⟩ else
  let q:=reorgF r.1
  if q.2.2≠0 then ⟨[],0,[],0,(texts.length:Int),0,q.2.2⟩ else ⟨r.1,r.2.1,q.1,mem,0,0,0⟩
theorem badF_take:∀ (l:List ByteArray) (k j:Nat) (s:ByteArray),(∀ (i:Nat) (s:ByteArray),i<j→l[i]? = some s→(Cm.compF (Sc.txt s)).2.2=0)→l[j]? = some s→(Cm.compF (Sc.txt s)).2.2≠0→badF k l=some (k+j,(Cm.compF (Sc.txt s)).2.1,(Cm.compF (Sc.txt s)).2.2)
 | [],k,j,s,_,h,_=>by simp at h
 | a::l,k,0,s,_,h,hb=>by
  obtain rfl:a=s:=by simpa using h
  rw [badF,if_pos hb];rfl
 | a::l,k,j+1,s,hg,h,hb=>by
  have h0:=hg 0 a (by omega) rfl;rw [badF,if_neg (by rw [h0];simp),badF_take l (k+1) j s (fun i t hi ht=>hg (i+1) t (by omega) ht) h hb];rw [show k+1+j=k+(j+1) by omega]
theorem badF_none:∀ (l:List ByteArray) (k:Nat),(∀ (i:Nat) (s:ByteArray),l[i]? = some s→(Cm.compF (Sc.txt s)).2.2=0)→badF k l=none
 | [],k,_=>rfl
 | a::l,k,h=>by
  have h0:=h 0 a rfl;rw [badF,if_neg (by rw [h0];simp)];exact badF_none l (k+1) (fun i t ht=>h (i+1) t ht)
theorem gen_row {w0 w:World} {M:Nat→Prop} {H:List Chunk} {L:List Chunk} {a:Option Addr} {c e sz n:Nat} {xs:List Value} (hw:St w0 M w (genL L::row a c e sz n xs::H)):St w0 M w (genL (L++[rng a xs])::H):=
 hw.gens rfl rfl (fun x hx=>by
  rcases List.mem_append.1 hx with hx | hx
  ·exact (gen_mem hx).one (prov_mem (List.mem_cons_self))
  ·rw [List.mem_singleton.1 hx];exact (row_rng (cap:=c) (e:=e) (sz:=sz) (n:=n)).one (prov_mem (List.mem_cons_of_mem _ List.mem_cons_self)))
def buV (r:Bu) (z:(Option Addr×Nat)×(Option Addr×Nat)):Value:=.tuple #[.agg #[.slice z.1.1 r.ic.length z.1.2,.int .i64 r.data,.slice z.2.1 r.code.length z.2.2,.int .i64 r.mem],.int .i64 r.n,.int .i64 r.pl,.int .i64 r.e]
def buH (r:Bu) (z:(Option Addr×Nat)×(Option Addr×Nat)):List Chunk:=[row z.1.1 z.1.2 105 5 r.ic.length (insC r.ic),row z.2.1 z.2.2 105 5 r.code.length (insC r.code)]
structure ObI (texts:List ByteArray) (k:Nat) (os:List Ob):Prop where
 le:k≤texts.length
 len:os.length=k
 same:os.map canon=(texts.take k).map obT
 ok:∀ o∈os,OkOb o
 good:∀ (i:Nat) (s:ByteArray),i<k→texts[i]? = some s→(Cm.compF (Sc.txt s)).2.2=0
theorem ObI.step {texts:List ByteArray} {k:Nat} {os:List Ob} {s:ByteArray} (h:ObI texts k os) (hs:texts[k]? = some s) (hl:s.size≤1000000) (he:(Cm.compF (Sc.txt s)).2.2=0) (x:Cm.Ax):ObI texts (k+1) (os++[Cm.obOf (Cm.compO (Sc.txt s)) x]):=by
 have hk:k<texts.length:=(List.getElem?_eq_some_iff.1 hs).1;refine ⟨hk,by rw [List.length_append,h.len];rfl,?_,?_,?_⟩
 ·rw [List.map_append,h.same,List.take_add_one,hs,List.map_append];rfl
 ·intro o ho;rcases List.mem_append.1 ho with ho | ho
  ·exact h.ok o ho
  ·rw [List.mem_singleton.1 ho];exact Cm.comp_ok s hl x
 ·intro i t hi ht;by_cases hik:i<k
  ·exact h.good i t hik ht
  ·obtain rfl:i=k:=by omega
   rw [hs] at ht;cases ht;exact he
theorem linkF_obI {texts:List ByteArray} {os:List Ob} (h:ObI texts texts.length os) (mem:Int):linkF os mem=linkF (texts.map obT) mem:=by
 refine linkF_same ?_ mem;rw [h.same,List.take_length,List.map_map];rfl
theorem linkF_len (l:List Ob) (mem:Int):(linkF l mem).1.length≤4096:=by
 have hp:∀ (ps:List Pa) (b:Ba) (sy:List Sym) (all mem:Int) (imps:List ByteArray) (code:List In),(patsF b sy all mem imps code ps).2.length=code.length:=by
  intro ps
  induction ps with
  | nil=>intros;rfl
  | cons p ps ih=>
   intro b sy all mem imps code;rw [patsF_cons];split
   ·rw [ih,patchF_len]
   ·exact patchF_len ..
 have ho:∀ (zs:List (Ba×Ob)) (sy:List Sym) (all mem:Int) (code:List In),(objsF sy all mem code zs).2.length=code.length:=by
  intro zs
  induction zs with
  | nil=>intros;rfl
  | cons z zs ih=>
   intro sy all mem code;rw [objsF_cons];split
   ·rw [ih,hp]
   ·exact hp ..
 unfold linkF;split
 ·simp
 ·split
  ·simp
  ·split
   ·simp
   ·dsimp only;split
    ·dsimp only;rw [ho];omega
    ·simp
theorem buildC (ta:Option Addr) (tc:Nat) (texts:List ByteArray) (mem:Int) (htl:texts.length≤100) (hts:∀ s∈texts,s.size≤1000000):FnC Tryz.prog 12 [.slice ta texts.length tc,.int .i64 mem] [] [rng ta (strC texts),Cm.spaceV] (fun z=>buV (buildF texts mem) z) (fun z=>buH (buildF texts mem) z) (fun _=>True):=by
 have hsl:(strC texts).length=texts.length:=by simp [strC]
 unfold buV buH;refine fn_intro Tryz.func12 Tryz.ntmps12 rfl rfl rfl (fun w0=>?_);refine rrs ?_;intro b4 _;refine rr ?_;refine hv [blk b4 [.slice none 0 0,.int .i64 0,.slice none 0 0,.int .i64 0] 28,row none 0 36 6 ([]:List Ob).length (obC []),genL (([]:List Ob).flatMap obS),rng ta (strC texts),Cm.spaceV] ?_;refine lo [0,1,4,18,19] (fun y:Nat×List Ob×Option Addr×Nat=>[(8,.slice y.2.2.1 y.2.1.length y.2.2.2),(20,.int .i64 (y.1:Int))]) (fun y=>[(1,row y.2.2.1 y.2.2.2 36 6 y.2.1.length (obC y.2.1)),(2,genL (y.2.1.flatMap obS))]) (fun y=>ObI texts y.1 y.2.1) (fun y=>texts.length-y.1) (0,[],none,0) ⟨Nat.zero_le _,rfl,rfl,fun o ho=>(by cases ho),fun i s hi=>(by omega)⟩ ?_;rintro ⟨k,os,ba,bc⟩ hx K1 hK1;dsimp only at hx ⊢;have hkl:=hx.le;have hol:=hx.len;have hocl:=obC_len os;by_cases hlt:k<texts.length
 ·obtain ⟨s,hs⟩:=some_at hlt;have hss:=hts s (List.mem_of_getElem? hs);have hco:=Cm.compileC s hss
  have hgs:(strC texts)[(k:Int).toNat*1]? = some (.string s):=by
   rw [show (k:Int).toNat*1=k by omega];unfold strC;rw [List.getElem?_map,hs];rfl
  refine w_use (fun w hw=>(hw.pick 3 rfl).rng_some (by omega)) ?_;rintro ⟨g1,rfl⟩;by_cases he:(Cm.compF (Sc.txt s)).2.2=0
  ·have hst:=fun x=>hx.step hs hss he x
   unfold obT at *;generalize Cm.compO (Sc.txt s)=o at *;generalize (Cm.compF (Sc.txt s)).2.1=pl at *;generalize (Cm.compF (Sc.txt s)).2.2=e at *;subst he;unfold Cm.o6G Cm.o6H at hco;refine rr ?_;refine cl (hco) ?_;intro x _;refine rrs ?_;intro b11 _;refine rr ?_;intro b12 _;refine rr ?_;rintro ⟨pa,pc⟩ ⟨ph,_⟩;refine rr ?_;have hst2:=hst x;have hce:obC os++[Value.string o.name,.slice x.ca o.code.length x.cc,.int .i64 o.data,.slice x.ea o.exps.length x.ec,.slice x.ia o.imps.length x.ic,.slice x.pa o.pats.length x.pc]=obC (os++[Cm.obOf o x]):=by unfold obC;rw [List.flatMap_append];rfl
   rw [hce,show os.length+1=(os++[Cm.obOf o x]).length by simp];refine hv [genL (os.flatMap obS),row x.ca x.cc 105 5 o.code.length (insC o.code),row x.ea x.ec 154 2 o.exps.length (syC o.exps),row x.ia x.ic 9 1 o.imps.length (strC o.imps),row x.pa x.pc 94 3 o.pats.length (paC o.pats),blk b4 [.slice none 0 0,.int .i64 0,.slice none 0 0,.int .i64 0] 28,row pa pc 36 6 (os++[Cm.obOf o x]).length (obC (os++[Cm.obOf o x])),rng (some g1) (strC texts),Cm.spaceV] ?_;refine w_turn (fun w hw=>gen_row hw) ?_;refine w_turn (fun w hw=>gen_row hw) ?_;refine w_turn (fun w hw=>gen_row hw) ?_;refine w_turn (fun w hw=>gen_row hw) ?_;have hge:os.flatMap obS++[rng x.ca (insC o.code)]++[rng x.ea (syC o.exps)]++[rng x.ia (strC o.imps)]++[rng x.pa (paC o.pats)]=(os++[Cm.obOf o x]).flatMap obS:=by rw [List.flatMap_append,List.append_assoc,List.append_assoc,List.append_assoc];rfl
   rw [hge];exact ro hK1 (k+1,os++[Cm.obOf o x],pa,pc) hst2
  ·have hbad:=badF_take texts 0 k s hx.good hs he
   have hbu:buildF texts mem=⟨[],0,[],0,(k:Int),(Cm.compF (Sc.txt s)).2.1,(Cm.compF (Sc.txt s)).2.2⟩:=by
    unfold buildF;rw [hbad];simp
   rw [hbu];generalize Cm.compO (Sc.txt s)=o at *;generalize (Cm.compF (Sc.txt s)).2.1=pl at *;generalize (Cm.compF (Sc.txt s)).2.2=e at *;unfold Cm.o6G Cm.o6H at hco;dsimp only;refine rr ?_;refine cl (hco) ?_;intro x _;refine rrs ?_;intro b11 _;refine rr ?_;exact en ((none,0),(none,0)) trivial
 ·obtain rfl:k=texts.length:=by omega
  have hlk:=linkC ba bc os mem (by omega) hx.ok;have hnb:=badF_none texts 0 (fun i s hs=>hx.good i s (List.getElem?_eq_some_iff.1 hs).1 hs);have hle:=linkF_obI hx mem;have hbl:=linkF_len os mem;rw [hle] at hlk hbl
  have hbu:buildF texts mem=(if (linkF (texts.map obT) mem).2.2≠0 then (⟨[],0,[],0,(texts.length:Int),0,(linkF (texts.map obT) mem).2.2⟩:Bu) else if (reorgF (linkF (texts.map obT) mem).1).2.2≠0 then ⟨[],0,[],0,(texts.length:Int),0,(reorgF (linkF (texts.map obT) mem).1).2.2⟩ else ⟨(linkF (texts.map obT) mem).1,(linkF (texts.map obT) mem).2.1,(reorgF (linkF (texts.map obT) mem).1).1,mem,0,0,0⟩):=by
   unfold buildF;rw [hnb]
  rw [hbu];generalize linkF (texts.map obT) mem=r at *;have hre:=fun la lc (h:r.1.length≤lc)=>reorgC la lc r.1 h (by omega)
  unfold linkV at hlk;unfold reoV reoH at hre;generalize reorgF r.1=q at *;obtain ⟨ic,data,e⟩:=r;obtain ⟨nc,ps,e2⟩:=q;dsimp only at *;refine rr ?_;refine cl (hlk) (hl:=lend_row (by repeat (first | exact find_here | apply find_there)) (lend_prov rfl (prov_see (fun c hc=>(gen_mem hc).one (prov_mem (nthC_mem (i:=2) rfl)))) trivial)) ?_;intro ⟨za,zc⟩ _;refine rrs ?_;intro b14 _;refine rr ?_;by_cases he:e=0
  ·subst he;rw [if_neg (by simp)];refine w_use (fun w hw=>(hw.pick 1 rfl).row_cap) ?_;intro hcap;refine rr ?_;refine cl (hre za zc hcap) ?_;intro ⟨⟨na,nc'⟩,⟨pa2,pc2⟩⟩ _;refine rrs ?_;by_cases he2:e2=0
   ·subst he2;rw [if_neg (by simp)];refine rr ?_;exact en ((za,zc),(na,nc')) trivial
   ·rw [if_pos he2];refine rr ?_;exact en ((none,0),(none,0)) trivial
  ·rw [if_pos he];refine rr ?_;exact en ((none,0),(none,0)) trivial
def awT1:List UInt8:=[112,114,111,103,114,97,109,32,97,59,32,98,101,103,105,110,32,119,114,105,116,101,32,55,32,101,110,100,46]
def awT2:List UInt8:=[109,111,100,117,108,101,32,98,59,32,101,110,100,46]
def awT3:List UInt8:=[63]
def awB:Bool:=(let r:=buildF [Sc.bs awT1] 10;Nat.blt 0 r.code.length && (r.mem == 10 && (r.n == 0 && (r.pl == 0 && r.e == 0))))
def awB2:Bool:=(let r:=buildF [Sc.bs awT2,Sc.bs awT3] 10;r.n == 1 && (r.pl == 0 && r.e == 2))
theorem awB_ok:awB=true:=by decide +kernel
theorem awB2_ok:awB2=true:=by decide +kernel
theorem awake20C:FnC (α:=Unit) Tryz.prog 11 [] [] [Cm.spaceV] (fun _=>.bool true) (fun _=>[]) (fun _=>True):=by
 have h1:∀ V,V=strC [Sc.bs awT1]→∀ ta tc,FnC Tryz.prog 12 [.slice ta 1 tc,.int .i64 10] [] [rng ta V,Cm.spaceV] (fun z=>buV (buildF [Sc.bs awT1] 10) z) (fun z=>buH (buildF [Sc.bs awT1] 10) z) (fun _=>True):=by
  intro V hV ta tc;subst hV;exact buildC ta tc [Sc.bs awT1] 10 (by decide) (fun s hs=>by rw [List.mem_singleton.1 hs,Sc.bs_size];decide)
 have h2:∀ V,V=strC [Sc.bs awT2,Sc.bs awT3]→∀ ta tc,FnC Tryz.prog 12 [.slice ta 2 tc,.int .i64 10] [] [rng ta V,Cm.spaceV] (fun z=>buV (buildF [Sc.bs awT2,Sc.bs awT3] 10) z) (fun z=>buH (buildF [Sc.bs awT2,Sc.bs awT3] 10) z) (fun _=>True):=by
  intro V hV ta tc;subst hV
  exact buildC ta tc [Sc.bs awT2,Sc.bs awT3] 10 (by decide) (fun s hs=>by
   simp only [List.mem_cons,List.not_mem_nil,or_false] at hs;rcases hs with rfl | rfl <;> (rw [Sc.bs_size];decide))
 have f1:=awB_ok;have f2:=awB2_ok;unfold awB at f1;unfold awB2 at f2;unfold buV buH at h1 h2;generalize buildF [Sc.bs awT1] 10=r1 at *;generalize buildF [Sc.bs awT2,Sc.bs awT3] 10=r2 at *;simp only [Bool.and_eq_true,beq_iff_eq] at f1 f2;obtain ⟨c1,d1,e1,m1,n1,p1,q1⟩:=r1;obtain ⟨c2,d2,e2,m2,n2,p2,q2⟩:=r2;dsimp only at *;obtain ⟨g1,rfl,rfl,rfl,rfl⟩:=f1;obtain ⟨rfl,rfl,rfl⟩:=f2
 have g2:(decide ((e1.length:Int)>0))=true:=by
  rw [Nat.blt_eq] at g1;simp;omega
 clear g1;refine fn_intro Tryz.func11 Tryz.ntmps11 rfl rfl rfl (fun w0=>?_);refine rrs ?_;intro b1 _;refine rr ?_;refine cl (h1 _ (by kernel_rfl) _ _) ?_;intro x _;refine rrs ?_;intro b2 _;refine rr ?_;intro b3 _;refine rr ?_;refine cl (h2 _ (by kernel_rfl) _ _) ?_;intro y _;refine rrs ?_;intro b4 _;refine rr ?_;exact en () trivial
structure Lt where
 mk ::
 (full:Bool) (i:In) (pl reg val sto whr trap:Int)
def lt0:Lt:=⟨false,⟨0,0,0,0,0⟩,0,0,0,0,0,0⟩
structure PS where
 mk ::
 (regs mem:List Int) (pc:Int) (inp out:List Int) (f r k a:Lt)
def writeP (m:PS):PS:=if m.a.full=true∧m.a.reg≠0 then { m with regs:=m.regs.set m.a.reg.toNat m.a.val,a:=lt0 } else { m with a:=lt0 }
def ldP (mem:List Int) (a:Int):Option Int:=if a<0 then none else mem[a.toNat]?
def sysP (l:Lt) (m:PS):Lt×PS:=
 if l.i.imm=0 then ({ l with trap:=1 },m)
 else if l.i.imm=1 then (match m.inp with
  | []=>({ l with trap:=6 },m)
  | v::r=>({ l with val:=w32 v },{ m with inp:=r }))
 else if l.i.imm=2 then (if 10000≤m.out.length then ({ l with trap:=9 },m) else (l,{ m with out:=m.out++[l.sto] }))
 else (l,m)
def actL (l:Lt) (m:PS):Int×PS:=
 if l.full=false∨l.trap≠0 then (l.trap,m)
 else if l.i.op=12 then (match ldP m.mem l.whr with
  | none=>(3,m)
  | some v=>(l.trap,{ m with a:={ l with val:=v } }))
 else if l.i.op=13 then (if l.whr<0∨(m.mem.length:Int)≤l.whr then (3,m) else (l.trap,{ m with mem:=m.mem.set l.whr.toNat (w32 l.sto),a:=l }))
 else if l.i.op=20 then ((sysP l m).1.trap,{ (sysP l m).2 with a:=(sysP l m).1 })
 else (l.trap,{ m with a:=l })
def actP (m:PS):Int×PS:=actL m.k { m with k:=lt0 }
def earlyP (n:Int) (ah:Lt) (regs:List Int):Int:=if n≠0∧ah.full=true∧ah.reg=n∧lateF ah.i=false then ah.val else regs.getD n.toNat 0
def reckL (ah:Lt) (regs:List Int) (l:Lt):Lt:=
 if l.full=true∧l.trap=0 then
  let a:=earlyP l.i.a ah regs
  let b:=earlyP l.i.b ah regs
  let c:=earlyP l.i.c ah regs
  let l1:Lt:={ l with reg:=writesF l.i,whr:=w32 (b+l.i.imm),sto:=a }
  if l.i.op=14 then (if a<0∨l.i.imm≤a then { l1 with trap:=if l.i.b=0 then 5 else l.i.b } else l1)
  else if l.i.op=18 then { l1 with val:=l.pl+2 }
  else if l.i.op=20 then { l1 with sto:=earlyP 4 ah regs }
  else { l1 with val:=(reckonQ l.i b c).1,trap:=(reckonQ l.i b c).2.1 }
 else l
def reckP (ah:Lt) (m:PS):PS:={ m with r:=lt0,k:=reckL ah m.regs m.r }
def nowP (n:Int) (m:PS):Int:=if n≠0∧m.a.full=true∧m.a.reg=n then earlyP n m.k (m.regs.set n.toNat m.a.val) else earlyP n m.k m.regs
def decL (l:Lt) (m:PS):Int:=
 if l.full=false∨l.trap≠0 then m.pc+1
 else if l.i.op=15∨l.i.op=16 then (if decide (nowP l.i.a m=nowP l.i.b m)=decide (l.i.op=15) then l.pl+1+l.i.imm else m.pc+1)
 else if l.i.op=17∨l.i.op=18 then l.i.imm
 else if l.i.op=19 then nowP l.i.a m
 else m.pc+1
def decP (m:PS):Int×PS:=(decL m.f { m with f:=lt0,r:=m.f },{ m with f:=lt0,r:=m.f })
def fetL (code:List In) (pc:Int):Lt:=
 if pc<0∨(code.length:Int)≤pc then { lt0 with full:=true,pl:=pc,trap:=2 }
 else if goodI (code.getD pc.toNat ⟨0,0,0,0,0⟩)=false then { lt0 with full:=true,pl:=pc,trap:=8 }
 else { lt0 with full:=true,pl:=pc,i:=code.getD pc.toNat ⟨0,0,0,0,0⟩ }
def fetP (code:List In) (nx:Int) (m:PS):PS:={ m with f:=fetL code m.pc,pc:=nx }
def cycP (code:List In) (m:PS):Int×PS:=
 let m1:=writeP m
 let r:=actP m1
 let m3:=reckP m1.k r.2
 let d:=decP m3
 (r.1,fetP code d.1 d.2)
def runP (code:List In):Nat→PS→Int×Int×PS
 | 0,m=>(0,0,m)
 | f+1,m=>
  let r:=cycP code m
  if r.1=0 then let q:=runP code f r.2
   (q.1,q.2.1+1,q.2.2) else (r.1,1,r.2)
def ps0 (mem:Nat) (inp:List Int):PS:=⟨List.replicate 32 0,List.replicate mem 0,0,inp,[],lt0,lt0,lt0,lt0⟩
def pipQ (code:List In) (mem:Int) (inp:List Int) (fuel:Int):Int×Int×List Int×List Int:=
 if mem<0∨32000<mem∨4096<code.length then (0,0,[],[]) else
 let r:=runP code fuel.toNat (ps0 mem.toNat inp)
 (r.1,r.2.1,r.2.2.out,usedQ r.2.2.mem)
def rgs (l:List Int):List Value:=[.int .i64 (l.getD 0 0),.int .i64 (l.getD 1 0),.int .i64 (l.getD 2 0),.int .i64 (l.getD 3 0),.int .i64 (l.getD 4 0),.int .i64 (l.getD 5 0),.int .i64 (l.getD 6 0),.int .i64 (l.getD 7 0),.int .i64 (l.getD 8 0),.int .i64 (l.getD 9 0),.int .i64 (l.getD 10 0),.int .i64 (l.getD 11 0),.int .i64 (l.getD 12 0),.int .i64 (l.getD 13 0),.int .i64 (l.getD 14 0),.int .i64 (l.getD 15 0),.int .i64 (l.getD 16 0),.int .i64 (l.getD 17 0),.int .i64 (l.getD 18 0),.int .i64 (l.getD 19 0),.int .i64 (l.getD 20 0),.int .i64 (l.getD 21 0),.int .i64 (l.getD 22 0),.int .i64 (l.getD 23 0),.int .i64 (l.getD 24 0),.int .i64 (l.getD 25 0),.int .i64 (l.getD 26 0),.int .i64 (l.getD 27 0),.int .i64 (l.getD 28 0),.int .i64 (l.getD 29 0),.int .i64 (l.getD 30 0),.int .i64 (l.getD 31 0)]
def rgG (l:List Int):Value:=.agg #[.int .i64 (l.getD 0 0),.int .i64 (l.getD 1 0),.int .i64 (l.getD 2 0),.int .i64 (l.getD 3 0),.int .i64 (l.getD 4 0),.int .i64 (l.getD 5 0),.int .i64 (l.getD 6 0),.int .i64 (l.getD 7 0),.int .i64 (l.getD 8 0),.int .i64 (l.getD 9 0),.int .i64 (l.getD 10 0),.int .i64 (l.getD 11 0),.int .i64 (l.getD 12 0),.int .i64 (l.getD 13 0),.int .i64 (l.getD 14 0),.int .i64 (l.getD 15 0),.int .i64 (l.getD 16 0),.int .i64 (l.getD 17 0),.int .i64 (l.getD 18 0),.int .i64 (l.getD 19 0),.int .i64 (l.getD 20 0),.int .i64 (l.getD 21 0),.int .i64 (l.getD 22 0),.int .i64 (l.getD 23 0),.int .i64 (l.getD 24 0),.int .i64 (l.getD 25 0),.int .i64 (l.getD 26 0),.int .i64 (l.getD 27 0),.int .i64 (l.getD 28 0),.int .i64 (l.getD 29 0),.int .i64 (l.getD 30 0),.int .i64 (l.getD 31 0)]
def ltC (l:Lt):List Value:=[.bool l.full,.int .i64 l.i.op,.int .i64 l.i.a,.int .i64 l.i.b,.int .i64 l.i.c,.int .i64 l.i.imm,.int .i64 l.pl,.int .i64 l.reg,.int .i64 l.val,.int .i64 l.sto,.int .i64 l.whr,.int .i64 l.trap]
def ltG (l:Lt):Value:=.agg #[.bool l.full,.int .i64 l.i.op,.int .i64 l.i.a,.int .i64 l.i.b,.int .i64 l.i.c,.int .i64 l.i.imm,.int .i64 l.pl,.int .i64 l.reg,.int .i64 l.val,.int .i64 l.sto,.int .i64 l.whr,.int .i64 l.trap]
def pmC (k:Kq) (m:PS) (x:Aq):List Value:=.slice k.ca k.cn k.cc :: .pointer (some ⟨k.mm,0,none⟩)::(rgs m.regs++(.int .i64 m.pc :: .slice x.ia m.inp.length x.ic :: .slice x.oa m.out.length x.oc::(ltC m.f++(ltC m.r++(ltC m.k++ltC m.a)))))
structure OkL (l:Lt):Prop where
 good:l.full=true→l.trap=0→goodI l.i=true∧0≤l.pl∧l.pl≤4096
 reg:0≤l.reg∧l.reg<32
 val:inK32 l.val
 sto:inK32 l.sto
 whr:inK32 l.whr
structure OkP (k:Kq) (st:Int) (m:PS):Prop where
 rl:m.regs.length=32
 rb:∀ r∈m.regs,inK32 r
 ml:m.mem.length=k.n
 mb:∀ v∈m.mem,inK32 v
 pc : -10000000000≤m.pc∧m.pc≤10000000000+st
 ol:m.out.length≤10000
 kn:k.n≤32000
 f:OkL m.f
 r:OkL m.r
 k:OkL m.k
 a:OkL m.a
structure OkPn (IA:Addr) (L:List Int) (m:PS) (x:Aq):Prop where
 tok:m.inp≠[]→∃ j,L.drop j=m.inp∧x.ia=some (IA.add j)
 cap:m.inp.length≤x.ic
theorem rg_get {l:List Int} (hl:l.length=32) {n:Int} (h0:0≤n) (h1:n<32) (k0:Nat):∀ (R:List Value),Sx.nth (rgs l++R) (n.toNat)=some (.int .i64 (l.getD n.toNat 0)):=by
 intro R;obtain ⟨j,rfl⟩:∃ j:Nat,n=j:=⟨n.toNat,by omega⟩
 have hj:j<32:=by omega
 rw [Int.toNat_natCast]
 have:∀ j<32,Sx.nth (rgs l++R) j=some (.int .i64 (l.getD j 0)):=by
  intro j hj
  match j,hj with
  | 0,_=>rfl
  | 1,_=>rfl
  | 2,_=>rfl
  | 3,_=>rfl
  | 4,_=>rfl
  | 5,_=>rfl
  | 6,_=>rfl
  | 7,_=>rfl
  | 8,_=>rfl
  | 9,_=>rfl
  | 10,_=>rfl
  | 11,_=>rfl
  | 12,_=>rfl
  | 13,_=>rfl
  | 14,_=>rfl
  | 15,_=>rfl
  | 16,_=>rfl
  | 17,_=>rfl
  | 18,_=>rfl
  | 19,_=>rfl
  | 20,_=>rfl
  | 21,_=>rfl
  | 22,_=>rfl
  | 23,_=>rfl
  | 24,_=>rfl
  | 25,_=>rfl
  | 26,_=>rfl
  | 27,_=>rfl
  | 28,_=>rfl
  | 29,_=>rfl
  | 30,_=>rfl
  | 31,_=>rfl
  | n+32,h=>exact absurd h (by omega)
 exact this j hj
theorem rgs_eq {l:List Int} (hl:l.length=32):rgs l=i64C l:=by
 refine List.ext_getElem? fun j=>?_
 by_cases hj:j<32
 ·have h:=rg_get hl (n:=(j:Int)) (by omega) (by omega) 0 [];rw [List.append_nil,Int.toNat_natCast,nth_eq] at h;have h2:=i64C_get (l:=l) (k:=j) (v:=l.getD j 0) (by rw [List.getD_eq_getElem?_getD,List.getElem?_eq_getElem (by omega)];rfl);rw [h,h2]
 ·rw [List.getElem?_eq_none (by show 32≤j;omega),List.getElem?_eq_none (by rw [i64C_len];omega)]
theorem rgs_set {l:List Int} (hl:l.length=32) {n:Nat} (v:Int):(rgs l).set n (.int .i64 v)=rgs (l.set n v):=by
 rw [rgs_eq hl,rgs_eq (by simp [hl]),i64C_set]
theorem rgs_get {l:List Int} (hl:l.length=32) {n:Int} (h0:0≤n) (h1:n<32):Sx.nth (rgs l) (0+n.toNat*1)=some (.int .i64 (l.getD n.toNat 0)):=by
 have h:=rg_get hl h0 h1 0 [];rw [List.append_nil] at h;rw [show 0+n.toNat*1=n.toNat by omega];exact h
theorem earlyC (n:Int) (ah:Lt) (l:List Int) (h0:0≤n) (h1:n<32) (hl:l.length=32):FnC (α:=Unit) Tryz.prog 161 [.int .i64 n,ltG ah,rgG l] [] [] (fun _=>.int .i64 (earlyP n ah l)) (fun _=>[]) (fun _=>True):=by
 have hlate:=lateEC ah.i;have hget:=rgs_get hl h0 h1;have hgl:(rgs l).length=32:=rfl;unfold ltG rgG earlyP inG at *;obtain ⟨full,i,pl,reg,val,sto,whr,trap⟩:=ah;dsimp only at *;by_cases hn:n=0
 ·rw [if_neg (by simp [hn])];refine fn_intro Tryz.func161 Tryz.ntmps161 rfl rfl rfl (fun w0=>?_);refine rrs ?_;intro b1 _;refine rr ?_;intro b2 _;refine rr ?_;exact en () trivial
 cases full with
 | false=>
  rw [if_neg (by simp)];refine fn_intro Tryz.func161 Tryz.ntmps161 rfl rfl rfl (fun w0=>?_);refine rrs ?_;intro b1 _;refine rr ?_;intro b2 _;refine rr ?_;exact en () trivial
 | true=>
  by_cases hr:reg=n
  ·cases hlt:lateF i with
   | true=>
    rw [if_neg (by simp)];rw [hlt] at hlate;refine fn_intro Tryz.func161 Tryz.ntmps161 rfl rfl rfl (fun w0=>?_);refine rrs ?_;intro b1 _;refine rr ?_;intro b2 _;refine rr ?_;refine cl (hlate) ?_;intro _ _;refine rrs ?_;exact en () trivial
   | false=>
    rw [if_pos ⟨hn,rfl,hr,rfl⟩];rw [hlt] at hlate;refine fn_intro Tryz.func161 Tryz.ntmps161 rfl rfl rfl (fun w0=>?_);refine rrs ?_;intro b1 _;refine rr ?_;intro b2 _;refine rr ?_;refine cl (hlate) ?_;intro _ _;refine rrs ?_;exact en () trivial
  ·rw [if_neg (fun h=>hr h.2.2.1)];refine fn_intro Tryz.func161 Tryz.ntmps161 rfl rfl rfl (fun w0=>?_);refine rrs ?_;intro b1 _;refine rr ?_;intro b2 _;refine rr ?_;exact en () trivial
section
variable {k:Kq} {m:PS} {x:Aq}
theorem pm_setR (h:m.regs.length=32) {n:Int} (h0:0≤n) (h1:n<32) (v:Int):(pmC k m x).set (0+2+n.toNat*1) (.int .i64 v)=pmC k { m with regs:=m.regs.set n.toNat v } x:=by
 rw [show 0+2+n.toNat*1=n.toNat+1+1 by omega];unfold pmC;have hl:(rgs m.regs).length=32:=rfl;rw [List.set_cons_succ,List.set_cons_succ,List.set_append_left _ _ (by rw [hl];omega),rgs_set h]
theorem withPC (c:Nat) (n v:Int) (h0:0≤n) (h1:n<32) (hl:m.regs.length=32):FnC (α:=Unit) Tryz.prog 209 [qP c,.int .i64 n,.int .i64 v] [blk c (pmC k m x) 136] [] (fun _=>rgG (m.regs.set n.toNat v)) (fun _=>[blk c (pmC k m x) 136]) (fun _=>True):=by
 have hset:(rgs m.regs).set (0+n.toNat*1) (.int .i64 v)=rgs (m.regs.set n.toNat v):=by
  rw [show 0+n.toNat*1=n.toNat by omega];exact rgs_set hl v
 unfold qP;unfold rgs at hset;refine fn_intro Tryz.func209 Tryz.ntmps209 rfl rfl rfl (fun w0=>?_);refine rrs ?_;intro b1 _;refine rr ?_;intro b2 _;refine rr ?_;rw [hset];refine rr ?_;exact en () trivial
theorem writePC (c:Nat) (hl:m.regs.length=32) (hr:0≤m.a.reg∧m.a.reg<32):FnC (α:=Unit) Tryz.prog 109 [qP c] [blk c (pmC k m x) 136] [] (fun _=>.tuple #[]) (fun _=>[blk c (pmC k (writeP m) x) 136]) (fun _=>True):=by
 have hset:=pm_setR (k:=k) (x:=x) hl hr.1 hr.2 m.a.val;have hlen:(pmC k m x).length=85:=rfl;unfold qP writeP;cases hf:m.a.full with
 | false=>
  rw [if_neg (by simp)];refine fn_intro Tryz.func109 Tryz.ntmps109 rfl rfl rfl (fun w0=>?_);refine rrs ?_;intro b1 _;refine rr ?_;exact en () trivial
 | true=>
  by_cases h0:m.a.reg=0
  ·rw [if_neg (by simp [h0])];refine fn_intro Tryz.func109 Tryz.ntmps109 rfl rfl rfl (fun w0=>?_);refine rrs ?_;intro b1 _;refine rr ?_;exact en () trivial
  ·rw [if_pos ⟨rfl,h0⟩];refine fn_intro Tryz.func109 Tryz.ntmps109 rfl rfl rfl (fun w0=>?_);refine rrs ?_;intro b1 _;refine rr ?_;refine dx [0,1,2,3,4,5,6,7,8] [2,4] [] ?_;refine rn ?_;rw [hset];refine rr ?_;exact en () trivial
end
section
variable {k:Kq}
theorem nowC (c:Nat) (n:Int) (m:PS) (x:Aq) (h0:0≤n) (h1:n<32) (hl:m.regs.length=32):FnC (α:=Unit) Tryz.prog 162 [qP c,.int .i64 n] [blk c (pmC k m x) 136] [] (fun _=>.int .i64 (nowP n m)) (fun _=>[blk c (pmC k m x) 136]) (fun _=>True):=by
 have hw:=withPC (k:=k) (m:=m) (x:=x) c n m.a.val h0 h1 hl;have he1:=earlyC n m.k m.regs h0 h1 hl;have he2:=earlyC n m.k (m.regs.set n.toNat m.a.val) h0 h1 (by simp [hl]);unfold qP nowP at *;by_cases hn:n=0
 ·rw [if_neg (by simp [hn])];refine fn_intro Tryz.func162 Tryz.ntmps162 rfl rfl rfl (fun w0=>?_);refine rrs ?_;refine dx [0,1,2,3,4,5,6,7,8,9,10] [4,8] [] ?_;refine rr ?_;refine cld (he1) ?_;intro _ _;refine rrs ?_;exact en () trivial
 cases hf:m.a.full with
 | false=>
  rw [if_neg (by simp)];refine fn_intro Tryz.func162 Tryz.ntmps162 rfl rfl rfl (fun w0=>?_);refine rrs ?_;refine dx [0,1,2,3,4,5,6,7,8,9,10] [4,8] [] ?_;refine rr ?_;refine cld (he1) ?_;intro _ _;refine rrs ?_;exact en () trivial
 | true=>
  by_cases hr:m.a.reg=n
  ·rw [if_pos ⟨hn,rfl,hr⟩];refine fn_intro Tryz.func162 Tryz.ntmps162 rfl rfl rfl (fun w0=>?_);refine rrs ?_;refine dx [0,1,2,3,4,5,6,7,8,9,10,11,12,13,14] [4,11] [] ?_;refine rr ?_;refine cld (hw) ?_;intro _ _;refine rrs ?_;refine cld (he2) ?_;intro _ _;refine rrs ?_;exact en () trivial
  ·rw [if_neg (fun h=>hr h.2.2)];refine fn_intro Tryz.func162 Tryz.ntmps162 rfl rfl rfl (fun w0=>?_);refine rrs ?_;refine dx [0,1,2,3,4,5,6,7,8,9,10] [4,8] [] ?_;refine rr ?_;refine cld (he1) ?_;intro _ _;refine rrs ?_;exact en () trivial
def mpH (c:Nat) (k:Kq) (m:PS) (x:Aq):List Chunk:=[blk c (pmC k m x) 136,blk k.mm [.slice (some ⟨k.g,0,none⟩) k.n k.n] 190,row (some ⟨k.g,0,none⟩) k.n 3 1 k.n (i64C m.mem),row x.oa x.oc 3 1 m.out.length (i64C m.out)]
theorem inp_look {w0 w:World} {M:Nat→Prop} {H:List Chunk} {IA a:Addr} {L:List Int} {m:PS} {x:Aq} {i:Nat} (hw:St w0 M w H) (hp:nthC H i=some (inB IA L)) (hx:OkPn IA L m x) (hn:m.inp≠[]) (ha:x.ia=some a):St w0 M w (rng (some a) (i64C m.inp)::H):=by
 obtain ⟨j,hj,hta⟩:=hx.tok hn;rw [ha] at hta;cases hta;refine hw.look rfl ?_;have h1:Prov [inB IA L] (rng (some (IA.add j)) ((i64C L).drop j)):=rng_drop _;rw [i64C_drop,hj] at h1;refine h1.one (prov_mem ?_);unfold ros;rw [List.mem_filter];exact ⟨nthC_mem hp,rfl⟩
theorem OkPn.same {IA:Addr} {L:List Int} {m m':PS} {x y:Aq} (h:OkPn IA L m x) (h1:m'.inp=m.inp) (h2:y.ia=x.ia) (h3:y.ic=x.ic):OkPn IA L m' y:=
 ⟨fun hn=>by rw [h1] at hn ⊢;rw [h2];exact h.tok hn,by rw [h1,h3];exact h.cap⟩
variable {IA:Addr} {L:List Int}
theorem sysPC (c:Nat) (l:Lt) (m:PS) (x:Aq) (hn:0≤l.i.imm∧l.i.imm≤2) (ho:m.out.length≤10000) (hx:OkPn IA L m x):FnC Tryz.prog 160 [qP c,ltG l] (mpH c k m x) [inB IA L] (fun _=>ltG (sysP l m).1) (fun y:Aq=>mpH c k (sysP l m).2 y) (fun y=>OkPn IA L (sysP l m).2 y):=by
 obtain ⟨ia,ic,oa,oc⟩:=x;have hlen:(pmC k m ⟨ia,ic,oa,oc⟩).length=85:=rfl;unfold mpH qP sysP at *;by_cases n0:l.i.imm=0
 ·rw [if_pos n0];unfold ltG;refine fn_intro Tryz.func160 Tryz.ntmps160 rfl rfl rfl (fun w0=>?_);refine rrs ?_;intro b1 _;refine rr ?_;intro b2 _;refine rr ?_;exact en ⟨ia,ic,oa,oc⟩ hx
 rw [if_neg n0];by_cases n1:l.i.imm=1
 ·rw [if_pos n1];cases hi:m.inp with
  | nil=>
   have hil:((m.inp.length:Int) == 0)=true:=by simp [hi]
   unfold ltG;dsimp only;refine fn_intro Tryz.func160 Tryz.ntmps160 rfl rfl rfl (fun w0=>?_);refine rrs ?_;intro b1 _;refine rr ?_;intro b2 _;refine rr ?_;exact en ⟨ia,ic,oa,oc⟩ hx
  | cons v r=>
   have hne:m.inp≠[]:=by rw [hi];simp
   obtain ⟨j,hj,hta⟩:=hx.tok hne;have hcap:=hx.cap;have hw32:=wrapC v;have hget:(i64C m.inp)[(0:Int).toNat*1]? = some (.int .i64 v):=by rw [hi];rfl
   have hgl:=i64C_len m.inp;have hil:((m.inp.length:Int) == 0)=false:=by simp [hi];omega
   have hl:m.inp.length=r.length+1:=by rw [hi];rfl
   unfold ltG;refine fn_intro Tryz.func160 Tryz.ntmps160 rfl rfl rfl (fun w0=>?_);try simp only [Sx.ap1,Sx.ap2,Sx.ap3]
   refine w_turn (fun w hw=>inp_look (i:=4) hw rfl hx hne hta) ?_;dsimp only at hta hcap;subst hta;refine rr ?_;intro b1 _;refine rr ?_;intro b2 _;refine rr ?_;refine cl (hw32) ?_;intro _ _;refine rrs ?_;have e1:((none:Option Int).getD (m.inp.length:Int)).toNat-((some (1:Int)).getD 0).toNat=r.length:=by simp;omega
   rw [e1];refine en ⟨_,_,oa,oc⟩ ⟨fun hr=>⟨j+1,?_,?_⟩,?_⟩
   ·show L.drop (j+1)=r
    rw [show L.drop (j+1)=(L.drop j).drop 1 by rw [List.drop_drop],hj,hi];rfl
   ·have:r.length≠0:=fun h=>hr (List.length_eq_zero_iff.mp h)
    have hdec:¬ ic=((some (1:Int)).getD 0).toNat:=by show ¬ ic=1;omega
    dsimp only;generalize instDecidableEqNat ic ((some (1:Int)).getD 0).toNat=dd;cases dd with
    | isTrue h=>exact absurd h hdec
    | isFalse h=>
     show some _=some _
     congr 1
     show (IA.add j).add 1=_
     unfold Addr.add;by_cases hz:j=0 <;> simp [hz,Nat.add_assoc]
   ·show r.length≤ic-1;omega
 rw [if_neg n1];have n2:l.i.imm=2:=by omega
 rw [if_pos n2];by_cases hf:10000≤m.out.length
 ·rw [if_pos hf];unfold ltG;refine fn_intro Tryz.func160 Tryz.ntmps160 rfl rfl rfl (fun w0=>?_);refine rrs ?_;intro b1 _;refine rr ?_;intro b2 _;refine rr ?_;exact en ⟨ia,ic,oa,oc⟩ hx
 ·rw [if_neg hf];unfold ltG;refine fn_intro Tryz.func160 Tryz.ntmps160 rfl rfl rfl (fun w0=>?_);refine rrs ?_;intro b1 _;refine rr ?_;intro b2 _;refine rr ?_;refine dx [0,1,2,3,4,5,6,7,8,9,10,11] [4,6] [] ?_;refine rr ?_;intro b3 _;refine rr ?_;rintro ⟨a2,c2⟩ ⟨hc2,_⟩;refine rr ?_;dsimp only;rw [show m.out.length+1=(m.out++[l.sto]).length by simp,← i64C_snoc];exact en ⟨ia,ic,a2,c2⟩ (hx.same rfl rfl rfl)
end
section
variable {IA:Addr} {L:List Int} {k:Kq}
theorem actPC (c:Nat) (m:PS) (x:Aq) {st:Int} (hm:OkP k st m) (hx:OkPn IA L m x):FnC Tryz.prog 110 [qP c] (mpH c k m x) [inB IA L] (fun _=>.int .i64 (actP m).1) (fun y:Aq=>mpH c k (actP m).2 y) (fun y=>OkPn IA L (actP m).2 y):=by
 have hlen:(pmC k m x).length=85:=rfl;have hkn:=hm.kn;have hml:=hm.ml;unfold actP actL;dsimp only;by_cases hoff:m.k.full=false∨m.k.trap≠0
 ·rw [if_pos hoff];unfold mpH qP;rcases hoff with h | h
  ·skip
   refine fn_intro Tryz.func110 Tryz.ntmps110 rfl rfl rfl (fun w0=>?_);refine rrs ?_;intro b1 _;refine rr ?_;exact en x (hx.same rfl rfl rfl)
  ·cases hfu:m.k.full with
   | false=>
    refine fn_intro Tryz.func110 Tryz.ntmps110 rfl rfl rfl (fun w0=>?_);refine rrs ?_;intro b1 _;refine rr ?_;exact en x (hx.same rfl rfl rfl)
   | true=>
    refine fn_intro Tryz.func110 Tryz.ntmps110 rfl rfl rfl (fun w0=>?_);refine rrs ?_;intro b1 _;refine rr ?_;exact en x (hx.same rfl rfl rfl)
 rw [if_neg hoff]
 have hfu:m.k.full=true:=by cases h:m.k.full with
  | true=>rfl
  | false=>exact absurd (.inl h) hoff
 have htr:m.k.trap=0:=Classical.not_not.1 (fun h=>hoff (.inr h));have hg:=(hm.k.good hfu htr).1;have hr:=rgI hg;by_cases h12:m.k.i.op=12
 ·rw [if_pos h12];by_cases hin:0≤m.k.whr∧m.k.whr<k.n
  ·obtain ⟨v,hv⟩:=some_at (l:=m.mem) (k:=m.k.whr.toNat) (by omega);have hl:ldP m.mem m.k.whr=some v:=by unfold ldP;rw [if_neg (by omega),hv]
   rw [hl];have h1:=loadOk k.mm k.g k.n m.mem m.k.whr v (by omega) hml hin.1 hv;unfold mpH qP memH mP at *;dsimp only;refine fn_intro Tryz.func110 Tryz.ntmps110 rfl rfl rfl (fun w0=>?_);refine rrs ?_;intro b1 _;refine rr ?_;refine dx [0,1,2,3,4,5,6,7,8,9,10,11] [3,5] [] ?_;refine rr ?_;refine cle (h1) ?_;intro _ _;refine rrs ?_;exact en x (hx.same rfl rfl rfl)
  ·have hl:ldP m.mem m.k.whr=none:=by
    unfold ldP;by_cases h:m.k.whr<0
    ·rw [if_pos h]
    ·rw [if_neg h];exact List.getElem?_eq_none (by omega)
   rw [hl];have h1:=loadBad k.mm k.g k.n m.mem m.k.whr (by omega) hin;unfold mpH qP memH mP at *;dsimp only;refine fn_intro Tryz.func110 Tryz.ntmps110 rfl rfl rfl (fun w0=>?_);refine rrs ?_;intro b1 _;refine rr ?_;refine dx [0,1,2,3,4,5,6,7,8,9,10,11] [3,5] [] ?_;refine rr ?_;refine cle (h1) ?_;intro _ _;refine rrs ?_;exact en x (hx.same rfl rfl rfl)
 rw [if_neg h12];by_cases h13:m.k.i.op=13
 ·rw [if_pos h13];by_cases hin:0≤m.k.whr∧m.k.whr<k.n
  ·rw [if_neg (by omega)];have h1:=storeOk k.mm k.g k.n m.mem m.k.whr m.k.sto (by omega) hml hin;unfold mpH qP memH mP at *;dsimp only;refine fn_intro Tryz.func110 Tryz.ntmps110 rfl rfl rfl (fun w0=>?_);refine rrs ?_;intro b1 _;refine rr ?_;refine dx [0,1,2,3,4,5,6,7,8,9] [3,5,7] [] ?_;refine rr ?_;refine cle (h1) ?_;intro _ _;refine rrs ?_;exact en x (hx.same rfl rfl rfl)
  ·rw [if_pos (by omega)];have h1:=storeBad k.mm k.g k.n m.mem m.k.whr m.k.sto (by omega) hin;unfold mpH qP memH mP at *;dsimp only;refine fn_intro Tryz.func110 Tryz.ntmps110 rfl rfl rfl (fun w0=>?_);refine rrs ?_;intro b1 _;refine rr ?_;refine dx [0,1,2,3,4,5,6,7,8,9] [3,5,7] [] ?_;refine rr ?_;refine cle (h1) ?_;intro _ _;refine rrs ?_;exact en x (hx.same rfl rfl rfl)
 rw [if_neg h13];by_cases h20:m.k.i.op=20
 ·rw [if_pos h20];have h1:=sysPC (IA:=IA) (L:=L) (k:=k) c m.k { m with k:=lt0 } x (hr.sys h20) hm.ol (hx.same rfl rfl rfl);generalize sysP m.k { m with k:=lt0 }=r at *;obtain ⟨r1,r2⟩:=r;unfold mpH qP at *;dsimp only at h1 ⊢;refine fn_intro Tryz.func110 Tryz.ntmps110 rfl rfl rfl (fun w0=>?_);refine rrs ?_;intro b1 _;refine rr ?_;refine cl (h1) ?_;intro y hy;refine rrs ?_;exact en y (hy.same rfl rfl rfl)
 rw [if_neg h20];unfold mpH qP at *;refine fn_intro Tryz.func110 Tryz.ntmps110 rfl rfl rfl (fun w0=>?_);refine rrs ?_;intro b1 _;refine rr ?_;exact en x (hx.same rfl rfl rfl)
end
section
variable {k:Kq}
theorem regs_in {l:List Int} (h:∀ r∈l,inK32 r) (n:Nat):inK32 (l.getD n 0):=by
 rw [List.getD_eq_getElem?_getD];cases hg:l[n]? with
 | none=>exact ⟨by decide,by decide⟩
 | some r=>exact h r (List.mem_of_getElem? hg)
theorem early_in {n:Int} {ah:Lt} {l:List Int} (ha:OkL ah) (h:∀ r∈l,inK32 r):inK32 (earlyP n ah l):=by
 unfold earlyP;split
 ·exact ha.val
 ·exact regs_in h _
theorem reckPC (c:Nat) (ah:Lt) (m:PS) (x:Aq) {st:Int} (hm:OkP k st m) (hah:OkL ah):FnC (α:=Unit) Tryz.prog 111 [qP c,ltG ah] [blk c (pmC k m x) 136] [] (fun _=>.tuple #[]) (fun _=>[blk c (pmC k (reckP ah m) x) 136]) (fun _=>True):=by
 have hlen:(pmC k m x).length=85:=rfl;unfold reckP reckL;by_cases hon:m.r.full=true∧m.r.trap=0
 case neg=>
  rw [if_neg hon];unfold qP ltG;cases hfu:m.r.full with
  | false=>
   refine fn_intro Tryz.func111 Tryz.ntmps111 rfl rfl rfl (fun w0=>?_);refine rrs ?_;intro b1 _;refine rr ?_;intro b2 _;refine rr ?_;exact en () trivial
  | true=>
   have htr:¬ m.r.trap=0:=fun h=>hon ⟨hfu,h⟩
   refine fn_intro Tryz.func111 Tryz.ntmps111 rfl rfl rfl (fun w0=>?_);refine rrs ?_;intro b1 _;refine rr ?_;intro b2 _;refine rr ?_;exact en () trivial
 rw [if_pos hon];obtain ⟨hfu,htr⟩:=hon;obtain ⟨hg,hp0,hp1⟩:=hm.r.good hfu htr;have hr:=rgI hg;have himm:=hr.imm;have ha:=earlyC m.r.i.a ah m.regs hr.a.1 hr.a.2 hm.rl;have hb:=earlyC m.r.i.b ah m.regs hr.b.1 hr.b.2 hm.rl;have hc:=earlyC m.r.i.c ah m.regs hr.c.1 hr.c.2 hm.rl;have h4:=earlyC 4 ah m.regs (by decide) (by decide) hm.rl;have hib:=early_in (n:=m.r.i.b) hah hm.rb;unfold inK32 at hib;have hwr:=writesEC m.r.i;have hrk:=fun b c=>reckonC m.r.i b c hg (by omega)
 dsimp only;generalize earlyP m.r.i.a ah m.regs=va at *;generalize earlyP m.r.i.b ah m.regs=vb at *;generalize earlyP m.r.i.c ah m.regs=vc at *;generalize earlyP 4 ah m.regs=v4 at *;generalize writesF m.r.i=vw at *;have hadd:=addC vb m.r.i.imm (by omega);have hrk:=hrk vb vc;generalize reckonQ m.r.i vb vc=q at *;obtain ⟨q1,q2,q3⟩:=q;unfold reckonV at hrk;unfold ltG at ha hb hc h4;unfold qP ltG;dsimp only at *;refine fn_intro Tryz.func111 Tryz.ntmps111 rfl rfl rfl (fun w0=>?_);refine rrs ?_;intro b1 _;refine rr ?_;intro b2 _;refine rr ?_;refine dx [0,1,2,3,4,5,6,7,9,10,11,12,13,14,15,16,18,19,20,21,22,23,24,25,8,17,26,27,28,29] [2,3,7,11,12,16,20,21,25] [] ?_;refine rr ?_;refine cld (ha) ?_;intro _ _;refine rrs ?_;refine cld (hb) ?_;intro _ _;refine rrs ?_;refine cld (hc) ?_;intro _ _;refine rrs ?_;refine cl (hwr) ?_;intro _ _;refine rrs ?_;refine cl (hadd) ?_;intro _ _;refine rrs ?_;by_cases h14:m.r.i.op=14
 ·rw [if_pos h14];have hcase:(va<0)∨(¬ va<0∧m.r.i.imm≤va)∨(¬ va<0∧¬ m.r.i.imm≤va):=by omega
  rcases hcase with hv | ⟨hv,hv2⟩ | ⟨hv,hv2⟩
  ·rw [if_pos (.inl hv)];by_cases hb0:m.r.i.b=0
   ·rw [if_pos hb0];refine rr ?_;exact en () trivial
   ·rw [if_neg hb0];refine rr ?_;exact en () trivial
  ·rw [if_pos (.inr hv2)];by_cases hb0:m.r.i.b=0
   ·rw [if_pos hb0];refine rr ?_;exact en () trivial
   ·rw [if_neg hb0];refine rr ?_;exact en () trivial
  ·rw [if_neg (by omega)];refine rr ?_;exact en () trivial
 rw [if_neg h14];by_cases h18:m.r.i.op=18
 ·rw [if_pos h18];refine rr ?_;exact en () trivial
 rw [if_neg h18];by_cases h20:m.r.i.op=20
 ·rw [if_pos h20];refine rr ?_;refine dx [0,1,2,3,4,5,6,7] [0,4] [] ?_;refine rr ?_;refine cld (h4) ?_;intro _ _;refine rrs ?_;exact en () trivial
 rw [if_neg h20];refine rr ?_;refine cl (hrk) ?_;intro _ _;refine rrs ?_;exact en () trivial
end
section
variable {k:Kq}
theorem now_in {n:Int} {m:PS} {st:Int} (h:OkP k st m):inK32 (nowP n m):=by
 unfold nowP;split
 ·exact early_in h.k (mem_set h.rb h.a.val)
 ·exact early_in h.k h.rb
theorem decPC (c:Nat) (m:PS) (x:Aq) {st:Int} (hs:0≤st∧st≤100000000) (hm:OkP k st m):FnC (α:=Unit) Tryz.prog 113 [qP c] [blk c (pmC k m x) 136] [] (fun _=>.int .i64 (decP m).1) (fun _=>[blk c (pmC k (decP m).2 x) 136]) (fun _=>True):=by
 have hlen:(pmC k m x).length=85:=rfl;have hpc:=hm.pc;unfold decP decL;dsimp only;by_cases hoff:m.f.full=false∨m.f.trap≠0
 ·rw [if_pos hoff];unfold qP;cases hfu:m.f.full with
  | false=>
   refine fn_intro Tryz.func113 Tryz.ntmps113 rfl rfl rfl (fun w0=>?_);refine rrs ?_;intro b1 _;refine rr ?_;exact en () trivial
  | true=>
   have htr:¬ m.f.trap=0:=by
    rcases hoff with h | h
    ·rw [hfu] at h;cases h
    ·exact h
   refine fn_intro Tryz.func113 Tryz.ntmps113 rfl rfl rfl (fun w0=>?_);refine rrs ?_;intro b1 _;refine rr ?_;exact en () trivial
 rw [if_neg hoff]
 have hfu:m.f.full=true:=by cases h:m.f.full with
  | true=>rfl
  | false=>exact absurd (.inl h) hoff
 have htr:m.f.trap=0:=Classical.not_not.1 (fun h=>hoff (.inr h));obtain ⟨hg,hp0,hp1⟩:=hm.f.good hfu htr;have hr:=rgI hg;have himm:=hr.imm;have ha:=nowC (k:=k) c m.f.i.a { m with f:=lt0,r:=m.f } x hr.a.1 hr.a.2 hm.rl;have hb:=nowC (k:=k) c m.f.i.b { m with f:=lt0,r:=m.f } x hr.b.1 hr.b.2 hm.rl;generalize nowP m.f.i.a { m with f:=lt0,r:=m.f }=va at *;generalize nowP m.f.i.b { m with f:=lt0,r:=m.f }=vb at *;unfold qP at *;by_cases h15:m.f.i.op=15
 ·rw [if_pos (.inl h15)];by_cases hab:va=vb
  ·rw [if_pos (by simp [hab,h15])];have hd:((va == vb) == (m.f.i.op == 15))=true:=by simp [hab,h15]
   refine fn_intro Tryz.func113 Tryz.ntmps113 rfl rfl rfl (fun w0=>?_);refine rrs ?_;intro b1 _;refine rr ?_;refine dx [0,1,2,3,5,6,7,8,11,12,13,14,4,9,10,15] [3,8,13] [] ?_;refine rr ?_;refine cld (ha) ?_;intro _ _;refine rrs ?_;refine cld (hb) ?_;intro _ _;refine rrs ?_;exact en () trivial
  ·rw [if_neg (by simp [hab,h15])];have hd:((va == vb) == (m.f.i.op == 15))=false:=by simp [hab,h15]
   refine fn_intro Tryz.func113 Tryz.ntmps113 rfl rfl rfl (fun w0=>?_);refine rrs ?_;intro b1 _;refine rr ?_;refine dx [0,1,2,3,5,6,7,8,11,12,13,14,4,9,10,15] [3,8,13] [] ?_;refine rr ?_;refine cld (ha) ?_;intro _ _;refine rrs ?_;refine cld (hb) ?_;intro _ _;refine rrs ?_;exact en () trivial
 by_cases h16:m.f.i.op=16
 ·rw [if_pos (.inr h16)];by_cases hab:va=vb
  ·rw [if_neg (by simp [hab,h15])];have hd:((va == vb) == (m.f.i.op == 15))=false:=by simp [hab,h15]
   refine fn_intro Tryz.func113 Tryz.ntmps113 rfl rfl rfl (fun w0=>?_);refine rrs ?_;intro b1 _;refine rr ?_;refine dx [0,1,2,3,5,6,7,8,11,12,13,14,4,9,10,15] [3,8,13] [] ?_;refine rr ?_;refine cld (ha) ?_;intro _ _;refine rrs ?_;refine cld (hb) ?_;intro _ _;refine rrs ?_;exact en () trivial
  ·rw [if_pos (by simp [hab,h15])]
   have hd:((va == vb) == (m.f.i.op == 15))=true:=by
    rw [show (va == vb)=false by simpa using hab,show (m.f.i.op == 15)=false by simpa using h15];rfl
   refine fn_intro Tryz.func113 Tryz.ntmps113 rfl rfl rfl (fun w0=>?_);refine rrs ?_;intro b1 _;refine rr ?_;refine dx [0,1,2,3,5,6,7,8,11,12,13,14,4,9,10,15] [3,8,13] [] ?_;refine rr ?_;refine cld (ha) ?_;intro _ _;refine rrs ?_;refine cld (hb) ?_;intro _ _;refine rrs ?_;exact en () trivial
 rw [if_neg (fun h=>h.elim h15 h16)];by_cases h17:m.f.i.op=17
 ·rw [if_pos (.inl h17)];refine fn_intro Tryz.func113 Tryz.ntmps113 rfl rfl rfl (fun w0=>?_);refine rrs ?_;intro b1 _;refine rr ?_;exact en () trivial
 by_cases h18:m.f.i.op=18
 ·rw [if_pos (.inr h18)];refine fn_intro Tryz.func113 Tryz.ntmps113 rfl rfl rfl (fun w0=>?_);refine rrs ?_;intro b1 _;refine rr ?_;exact en () trivial
 rw [if_neg (fun h=>h.elim h17 h18)];by_cases h19:m.f.i.op=19
 ·rw [if_pos h19];refine fn_intro Tryz.func113 Tryz.ntmps113 rfl rfl rfl (fun w0=>?_);refine rrs ?_;intro b1 _;refine rr ?_;refine cl (ha) ?_;intro _ _;refine rrs ?_;exact en () trivial
 rw [if_neg h19];refine fn_intro Tryz.func113 Tryz.ntmps113 rfl rfl rfl (fun w0=>?_);refine rrs ?_;intro b1 _;refine rr ?_;exact en () trivial
theorem fetPC (c:Nat) (nx:Int) (code:List In) (hk:k.cn=code.length) (hc:code.length≤1000000) (m:PS) (x:Aq):FnC (α:=Unit) Tryz.prog 112 [qP c,.int .i64 nx] [blk c (pmC k m x) 136] [rng k.ca (insC code)] (fun _=>.tuple #[]) (fun _=>[blk c (pmC k (fetP code nx m) x) 136]) (fun _=>True):=by
 have hlen:(pmC k m x).length=85:=rfl;have hcl:=insC_len code;obtain ⟨ca0,cn,cc,mm,g,n⟩:=k;dsimp only at hk;subst hk;unfold fetP fetL;by_cases h0:m.pc<0
 ·rw [if_pos (.inl h0)];unfold qP;refine fn_intro Tryz.func112 Tryz.ntmps112 rfl rfl rfl (fun w0=>?_);refine rrs ?_;intro b1 _;refine rr ?_;refine dx [0,1,2,3,4,5,6,7,8,9,10,11,12,13,14,15,16,17] [3,9,13] [] ?_;refine rr ?_;exact en () trivial
 by_cases h1:(code.length:Int)≤m.pc
 ·rw [if_pos (.inr h1)];unfold qP;refine fn_intro Tryz.func112 Tryz.ntmps112 rfl rfl rfl (fun w0=>?_);refine rrs ?_;intro b1 _;refine rr ?_;refine dx [0,1,2,3,4,5,6,7,8,9,10,11,12,13,14,15,16,17] [3,9,13] [] ?_;refine rr ?_;exact en () trivial
 rw [if_neg (fun h=>h.elim h0 h1)];obtain ⟨i,hi⟩:=some_at (l:=code) (k:=m.pc.toNat) (by omega);have hgd:code.getD m.pc.toNat ⟨0,0,0,0,0⟩=i:=by rw [List.getD_eq_getElem?_getD,hi];rfl
 rw [hgd];have hall:((insC code).drop (m.pc.toNat*5)).take 5=[.int .i64 i.op,.int .i64 i.a,.int .i64 i.b,.int .i64 i.c,.int .i64 i.imm]:=insC_all hi _ (by omega);have hright:=rightIC i;unfold qP inG at *;cases hg:goodI i with
 | false=>
  rw [hg] at hright;rw [if_pos rfl];refine fn_intro Tryz.func112 Tryz.ntmps112 rfl rfl rfl (fun w0=>?_);try simp only [Sx.ap1,Sx.ap2,Sx.ap3]
  refine w_use (fun w hw=>(hw.pick 1 rfl).rng_some (by omega)) ?_;rintro ⟨g1,rfl⟩;refine rr ?_;intro b1 _;refine rr ?_;refine dx [0,1,2,3,4,5,6,7,8,9,10,11,12,13,14,15,16,17] [3,9,13] [] ?_;refine rr ?_;refine dx [0,1,2,3,4,5,6,7,8,9,10,11,12] [3,7,9] [] ?_;refine rr ?_;refine cld (hright) ?_;intro _ _;refine rrs ?_;exact en () trivial
 | true=>
  rw [hg] at hright;rw [if_neg (by simp)];refine fn_intro Tryz.func112 Tryz.ntmps112 rfl rfl rfl (fun w0=>?_);try simp only [Sx.ap1,Sx.ap2,Sx.ap3]
  refine w_use (fun w hw=>(hw.pick 1 rfl).rng_some (by omega)) ?_;rintro ⟨g1,rfl⟩;refine rr ?_;intro b1 _;refine rr ?_;refine dx [0,1,2,3,4,5,6,7,8,9,10,11,12,13,14,15,16,17] [3,9,13] [] ?_;refine rr ?_;refine dx [0,1,2,3,4,5,6,7,8,9,10,11,12] [3,7,9] [] ?_;refine rr ?_;refine cld (hright) ?_;intro _ _;refine rrs ?_;refine dx [0,1,2,3,4,5,6,7,8,9,10,11] [3,7,9] [] ?_;refine rr ?_;exact en () trivial
end
section
variable {k:Kq} {m:PS} {st:Int}
theorem tmod_in {a b:Int} (h:inK32 a):inK32 (a.tmod b):=by
 unfold inK32 at *;have h1:(a.tmod b).natAbs≤a.natAbs:=by rw [Int.natAbs_tmod];exact Nat.mod_le _ _
 by_cases h0:0≤a
 ·have h2:=Int.tmod_nonneg b h0;omega
 ·have h2:=Int.tmod_nonneg b (show 0 ≤ -a by omega);rw [Int.neg_tmod] at h2;omega
theorem zero_in:inK32 0:=⟨by decide,by decide⟩
theorem reckon_in (i:In) (b c:Int):inK32 (reckonQ i b c).1:=by
 unfold reckonQ;split
 ·exact w32_in _
 ·split
  ·split
   ·exact zero_in
   ·split
    ·exact tmod_in (w32_in _)
    ·exact w32_in _
  ·exact zero_in
theorem ok_lt0:OkL lt0:=⟨(fun h=>by cases h),by decide,zero_in,zero_in,zero_in⟩
theorem writes_in (i:In):0≤writesF i∧writesF i<32:=by
 unfold writesF;split
 ·rename_i h;have hr:=rgI h;have ha:=hr.a;unfold fieldsF sysF
  (repeat' split) <;> simp <;> omega
 ·decide
theorem OkP.write (h:OkP k st m):OkP k st (writeP m):=by
 unfold writeP;split
 ·exact ⟨by simp [h.rl],mem_set h.rb h.a.val,h.ml,h.mb,h.pc,h.ol,h.kn,h.f,h.r,h.k,ok_lt0⟩
 ·exact ⟨h.rl,h.rb,h.ml,h.mb,h.pc,h.ol,h.kn,h.f,h.r,h.k,ok_lt0⟩
theorem OkP.act (h:OkP k st m):OkP k st (actP m).2:=by
 have hk:OkP k st { m with k:=lt0 }:=⟨h.rl,h.rb,h.ml,h.mb,h.pc,h.ol,h.kn,h.f,h.r,ok_lt0,h.a⟩
 have hl:=h.k;unfold actP;generalize m.k=l at *;generalize ({ m with k:=lt0 }:PS)=n at *;clear h;have hset:∀ a,OkL a→OkP k st { n with a:=a }:=fun a ha=>⟨hk.rl,hk.rb,hk.ml,hk.mb,hk.pc,hk.ol,hk.kn,hk.f,hk.r,hk.k,ha⟩
 unfold actL;split
 ·exact hk
 ·split
  ·unfold ldP;split
   ·rename_i hl2;exact hk
   ·rename_i v hv;refine hset _ ⟨hl.good,hl.reg,?_,hl.sto,hl.whr⟩;split at hv
    ·cases hv
    ·exact hk.mb v (List.mem_of_getElem? hv)
  ·split
   ·split
    ·exact hk
    ·exact ⟨hk.rl,hk.rb,by simp [hk.ml],mem_set hk.mb (w32_in _),hk.pc,hk.ol,hk.kn,hk.f,hk.r,hk.k,hl⟩
   ·split
    ·rename_i hoff _ _ _
     have hg:l.full=true∧l.trap=0:=by
      refine ⟨?_,Classical.not_not.1 (fun h=>hoff (.inr h))⟩;cases h:l.full with
      | true=>rfl
      | false=>exact absurd (.inl h) hoff
     have hgd:=hl.good hg.1 hg.2;unfold sysP;split
     ·exact hset _ ⟨fun _ _=>hgd,hl.reg,hl.val,hl.sto,hl.whr⟩
     ·split
      ·split
       ·exact hset _ ⟨fun _ _=>hgd,hl.reg,hl.val,hl.sto,hl.whr⟩
       ·exact ⟨hk.rl,hk.rb,hk.ml,hk.mb,hk.pc,hk.ol,hk.kn,hk.f,hk.r,hk.k,⟨fun _ _=>hgd,hl.reg,w32_in _,hl.sto,hl.whr⟩⟩
      ·split
       ·split
        ·exact hset _ ⟨fun _ _=>hgd,hl.reg,hl.val,hl.sto,hl.whr⟩
        ·exact ⟨hk.rl,hk.rb,hk.ml,hk.mb,hk.pc,by simp;omega,hk.kn,hk.f,hk.r,hk.k,hl⟩
       ·exact hset _ hl
    ·exact hset _ hl
theorem OkP.reck {ah:Lt} (h:OkP k st m) (ha:OkL ah):OkP k st (reckP ah m):=by
 unfold reckP;refine ⟨h.rl,h.rb,h.ml,h.mb,h.pc,h.ol,h.kn,h.f,ok_lt0,?_,h.a⟩;have hl:=h.r;have hrb:=h.rb;dsimp only;unfold reckL;split
 ·rename_i hon;have hgd:=hl.good hon.1 hon.2;have hw:=writes_in m.r.i;dsimp only;split
  ·split
   ·exact ⟨fun _ _=>hgd,hw,hl.val,early_in ha hrb,w32_in _⟩
   ·exact ⟨fun _ _=>hgd,hw,hl.val,early_in ha hrb,w32_in _⟩
  ·split
   ·exact ⟨fun _ _=>hgd,hw,⟨by dsimp only;omega,by dsimp only;omega⟩,early_in ha hrb,w32_in _⟩
   ·split
    ·exact ⟨fun _ _=>hgd,hw,hl.val,early_in ha hrb,w32_in _⟩
    ·exact ⟨fun _ _=>hgd,hw,reckon_in _ _ _,early_in ha hrb,w32_in _⟩
 ·exact hl
theorem OkP.dec (h:OkP k st m):OkP k st (decP m).2:=⟨h.rl,h.rb,h.ml,h.mb,h.pc,h.ol,h.kn,ok_lt0,h.f,h.k,h.a⟩
theorem dec_in (hs:0≤st) (h:OkP k st m) : -10000000000≤(decP m).1∧(decP m).1≤10000000000+(st+1):=by
 have hpc:=h.pc;have hd:=h.dec;have hi:=fun n=>now_in (n:=n) hd
 unfold inK32 at hi;unfold decP decL at *;dsimp only at *;split
 ·omega
 ·rename_i hoff
  have hg:m.f.full=true∧m.f.trap=0:=by
   refine ⟨?_,Classical.not_not.1 (fun h=>hoff (.inr h))⟩;cases h:m.f.full with
   | true=>rfl
   | false=>exact absurd (.inl h) hoff
  have hgd:=h.f.good hg.1 hg.2;have himm:=(rgI hgd.1).imm;have hia:=hi m.f.i.a;split
  ·split <;> omega
  ·split
   ·omega
   ·split <;> omega
theorem OkP.fet {code:List In} (hc:code.length≤4096) {nx:Int} (h:OkP k st m) (hn : -10000000000≤nx∧nx≤10000000000+(st+1)):OkP k (st+1) (fetP code nx m):=by
 unfold fetP;refine ⟨h.rl,h.rb,h.ml,h.mb,hn,h.ol,h.kn,?_,h.r,h.k,h.a⟩;dsimp only;unfold fetL;split
 ·exact ⟨(fun _ h=>by cases h),⟨Int.le_refl 0,(by decide:(0:Int)<32)⟩,zero_in,zero_in,zero_in⟩
 ·rename_i hp;split
  ·exact ⟨(fun _ h=>by cases h),⟨Int.le_refl 0,(by decide:(0:Int)<32)⟩,zero_in,zero_in,zero_in⟩
  ·rename_i hg;refine ⟨fun _ _=>⟨by simpa using hg,?_,?_⟩,⟨Int.le_refl 0,(by decide:(0:Int)<32)⟩,zero_in,zero_in,zero_in⟩
   ·dsimp only;omega
   ·dsimp only;omega
theorem OkP.cyc {code:List In} (hc:code.length≤4096) (hs:0≤st) (h:OkP k st m):OkP k (st+1) (cycP code m).2:=by
 unfold cycP;dsimp only;have h3:=(h.write.act).reck (h.write.k);exact h3.dec.fet hc (dec_in hs h3)
theorem okp0 (ca:Option Addr) (cn cc mm g n:Nat) (inp:List Int) (hn:n≤32000):OkP ⟨ca,cn,cc,mm,g,n⟩ 0 (ps0 n inp):=by
 refine ⟨by simp [ps0],?_,by simp [ps0],?_,by simp [ps0],by simp [ps0],hn,ok_lt0,ok_lt0,ok_lt0,ok_lt0⟩
 ·intro r hr;simp only [ps0,List.mem_replicate] at hr;rw [hr.2];exact zero_in
 ·intro r hr;simp only [ps0,List.mem_replicate] at hr;rw [hr.2];exact zero_in
end
end Go.Proofs.YtkolmklfgbimoaaGreatDoor
namespace Go.Proofs.YtkolmklfgbimoaaGreatDoor
open Go
structure Co where
 mk ::
 (regs mem inp out:List Int)
def rgX (s:Co) (n:Int):Int:=s.regs.getD n.toNat 0
def wrX (n v:Int) (s:Co):Co:=if n=0 then s else { s with regs:=s.regs.set n.toNat v }
def sysX (n:Int) (s:Co):Int×Co:=
 if n=0 then (1,s)
 else if n=1 then (match s.inp with
  | []=>(6,s)
  | v::r=>(0,wrX 4 (w32 v) { s with inp:=r }))
 else if n=2 then (if 10000≤s.out.length then (9,s) else (0,{ s with out:=s.out++[rgX s 4] }))
 else (0,s)
def exI (lk:Int) (i:In) (s:Co):Int×Co:=
 if i.op=12 then (match ldP s.mem (w32 (rgX s i.b+i.imm)) with
  | none=>(3,s)
  | some v=>(0,wrX i.a v s))
 else if i.op=13 then (if w32 (rgX s i.b+i.imm)<0∨(s.mem.length:Int)≤w32 (rgX s i.b+i.imm) then (3,s) else (0,{ s with mem:=s.mem.set (w32 (rgX s i.b+i.imm)).toNat (rgX s i.a) }))
 else if i.op=14 then (if rgX s i.a<0∨i.imm≤rgX s i.a then (if i.b=0 then 5 else i.b) else 0,s)
 else if i.op=18 then (0,wrX 31 lk s)
 else if i.op=20 then sysX i.imm s
 else ((reckonQ i (rgX s i.b) (rgX s i.c)).2.1,if (reckonQ i (rgX s i.b) (rgX s i.c)).2.1=0∧(reckonQ i (rgX s i.b) (rgX s i.c)).2.2=true then wrX i.a (reckonQ i (rgX s i.b) (rgX s i.c)).1 s else s)
def jmpI (i:In) (pc:Int) (s:Co):Option Int:=
 if i.op=15∨i.op=16 then (if decide (rgX s i.a=rgX s i.b)=decide (i.op=15) then some (pc+1+i.imm) else none)
 else if i.op=17∨i.op=18 then some i.imm
 else if i.op=19 then some (rgX s i.a)
 else none
structure CoOk (s:Co):Prop where
 rl:s.regs.length=32
 rb:∀ r∈s.regs,inK32 r
 r0:s.regs.getD 0 0=0
 mb:∀ v∈s.mem,inK32 v
theorem CoOk.rg {s:Co} (h:CoOk s) (n:Int):inK32 (rgX s n):=regs_in h.rb _
theorem rgX_0 {s:Co} (h:CoOk s):rgX s 0=0:=h.r0
theorem CoOk.wr {s:Co} (h:CoOk s) {n v:Int} (h0:0≤n) (hv:inK32 v):CoOk (wrX n v s):=by
 unfold wrX;split
 ·exact h
 ·refine ⟨by simp [h.rl],mem_set h.rb hv,?_,h.mb⟩;obtain ⟨k,hk⟩:∃ k,n.toNat=k+1:=⟨n.toNat-1,by omega⟩
  rw [hk];have:=h.r0
  revert this
  cases s.regs with
  | nil=>exact id
  | cons a l=>exact id
theorem ldP_mem {l:List Int} {a v:Int} (h:ldP l a=some v):v∈l:=by
 unfold ldP at h;split at h
 ·cases h
 ·exact List.mem_of_getElem? h
theorem CoOk.ex {s:Co} (h:CoOk s) {lk:Int} (hl:inK32 lk) {i:In} (hi:goodI i=true):CoOk (exI lk i s).2:=by
 have hr:=rgI hi;unfold exI;split
 ·split
  ·exact h
  ·rename_i v hv;exact h.wr hr.a.1 (h.mb v (ldP_mem hv))
 ·split
  ·split
   ·exact h
   ·exact ⟨h.rl,h.rb,h.r0,mem_set h.mb (h.rg _)⟩
  ·split
   ·exact h
   ·split
    ·exact h.wr (n:=31) (by decide) hl
    ·split
     ·unfold sysX;split
      ·exact h
      ·split
       ·split
        ·exact h
        ·rename_i v r _;exact CoOk.wr (s:={ s with inp:=r }) (n:=4) ⟨h.rl,h.rb,h.r0,h.mb⟩ (by decide) (w32_in _)
       ·split
        ·split
         ·exact h
         ·exact ⟨h.rl,h.rb,h.r0,h.mb⟩
        ·exact h
     ·dsimp only;split
      ·exact h.wr hr.a.1 (reckon_in _ _ _)
      ·exact h
def mkM (c:Co) (pc:Int):MS:=⟨c.regs,c.mem,pc,c.inp,c.out⟩
theorem rgQ_mk (c:Co) (pc n:Int):rgQ (mkM c pc) n=rgX c n:=rfl
theorem setQ_mk (c:Co) (pc:Int) {n v:Int} (h:inK32 v):setQ n v (mkM c pc)=mkM (wrX n v c) pc:=by
 unfold setQ wrX;split
 ·rfl
 ·rw [w32_id h];rfl
theorem reck_none {i:In} (h:i.op=0∨(12≤i.op∧i.op≤20)) (b c:Int):reckonQ i b c=(0,0,false):=by
 unfold reckonQ reckQ
 repeat rw [if_neg (by omega)]
theorem step_ex {code:List In} {c:Co} {pc:Int} {i:In} (h0:0≤pc) (h1:pc≤100000) (hi:code[pc.toNat]? = some i) (hg:goodI i=true) (hc:CoOk c) :
  stepQ code (mkM c pc)=((exI (pc+1) i c).1,mkM (exI (pc+1) i c).2 (if (exI (pc+1) i c).1=0 then (jmpI i pc c).getD (pc+1) else pc)):=by
 have hr:=rgI hg;have hop:=hr.op;unfold stepQ;rw [if_neg (by show ¬ pc<0;omega)];rw [show (mkM c pc).pc=pc from rfl,hi];dsimp only;rw [if_neg (by rw [hg];simp)];by_cases h12:i.op=12
 ·have e1:actQ i (mkM c pc)=(match ldP c.mem (w32 (rgX c i.b+i.imm)) with
   | none=>(3,mkM c pc)
   | some v=>(0,setQ i.a v (mkM c pc))):=by unfold actQ;rw [if_pos h12];rfl
  have e2:exI (pc+1) i c=(match ldP c.mem (w32 (rgX c i.b+i.imm)) with
   | none=>(3,c)
   | some v=>(0,wrX i.a v c)):=by unfold exI;rw [if_pos h12]
  rw [e1,e2];cases hl:ldP c.mem (w32 (rgX c i.b+i.imm)) with
  | none=>simp
  | some v=>
   dsimp only;rw [if_neg (by simp),reck_none (by omega),setQ_mk _ _ (hc.mb v (ldP_mem hl))];unfold nextQ jmpI;simp [h12,mkM]
 by_cases h13:i.op=13
 ·have e1:actQ i (mkM c pc)=(if w32 (rgX c i.b+i.imm)<0∨(c.mem.length:Int)≤w32 (rgX c i.b+i.imm) then (3,mkM c pc) else (0,mkM { c with mem:=c.mem.set (w32 (rgX c i.b+i.imm)).toNat (w32 (rgX c i.a)) } pc)):=by unfold actQ;rw [if_neg h12,if_pos h13];rfl
  have e2:exI (pc+1) i c=(if w32 (rgX c i.b+i.imm)<0∨(c.mem.length:Int)≤w32 (rgX c i.b+i.imm) then (3,c) else (0,{ c with mem:=c.mem.set (w32 (rgX c i.b+i.imm)).toNat (rgX c i.a) })):=by unfold exI;rw [if_neg h12,if_pos h13]
  rw [e1,e2,w32_id (hc.rg i.a)];split
  ·simp
  ·dsimp only;rw [if_neg (by simp),reck_none (by omega)];unfold nextQ jmpI;simp [h13,mkM]
 by_cases h14:i.op=14
 ·have e1:actQ i (mkM c pc)=(if rgX c i.a<0∨i.imm≤rgX c i.a then (if i.b=0 then 5 else i.b,mkM c pc) else (0,mkM c pc)):=by unfold actQ;rw [if_neg h12,if_neg h13,if_pos h14];rfl
  have e2:exI (pc+1) i c=(if rgX c i.a<0∨i.imm≤rgX c i.a then (if i.b=0 then 5 else i.b) else 0,c):=by unfold exI;rw [if_neg h12,if_neg h13,if_pos h14]
  rw [e1,e2];have hne:(if i.b=0 then (5:Int) else i.b)≠0:=by split <;> omega
  by_cases hb:rgX c i.a<0∨i.imm≤rgX c i.a
  ·rw [if_pos hb,if_pos hb];dsimp only;rw [if_pos hne,if_neg hne]
  ·rw [if_neg hb,if_neg hb];dsimp only;rw [if_neg (by simp),reck_none (by omega)];unfold nextQ jmpI;simp [h14,mkM]
 by_cases h20:i.op=20
 ·have e1:actQ i (mkM c pc)=sysQ i.imm (mkM c pc):=by unfold actQ;rw [if_neg h12,if_neg h13,if_neg h14,if_pos h20]
  have e2:exI (pc+1) i c=sysX i.imm c:=by unfold exI;rw [if_neg h12,if_neg h13,if_neg h14,if_neg (by omega),if_pos h20]
  rw [e1,e2]
  have hs:sysQ i.imm (mkM c pc)=((sysX i.imm c).1,mkM (sysX i.imm c).2 pc):=by
   unfold sysQ sysX;split
   ·rfl
   ·split
    ·show (match c.inp with
      | []=>((6:Int),mkM c pc)
      | v::r=>(0,{ setQ 4 v (mkM c pc) with inp:=r }))=_
     cases c.inp with
     | nil=>rfl
     | cons v r=>
      dsimp only
      have:setQ 4 v (mkM c pc)=mkM (wrX 4 (w32 v) c) pc:=by
       unfold setQ wrX;rw [if_neg (by decide),if_neg (by decide)];rfl
      rw [this];unfold wrX;rw [if_neg (by decide),if_neg (by decide)];rfl
    ·split
     ·show (if 10000≤c.out.length then ((9:Int),mkM c pc) else (0,{ (mkM c pc) with out:=c.out++[rgX c 4] }))=_
      split <;> rfl
     ·rfl
  rw [hs];dsimp only;by_cases h0:(sysX i.imm c).1=0
  ·rw [if_neg (by simpa using h0),if_pos h0,reck_none (by omega)];unfold nextQ jmpI;simp [h20,mkM,h0]
  ·rw [if_pos h0,if_neg h0]
 have e1:actQ i (mkM c pc)=(0,mkM c pc):=by unfold actQ;rw [if_neg h12,if_neg h13,if_neg h14,if_neg h20]
 rw [e1];dsimp only;rw [if_neg (by simp),rgQ_mk,rgQ_mk];by_cases h18:i.op=18
 ·have e2:exI (pc+1) i c=(0,wrX 31 (pc+1) c):=by unfold exI;rw [if_neg h12,if_neg h13,if_neg h14,if_pos h18]
  rw [e2,reck_none (by omega)];dsimp only;rw [if_neg (by simp),if_neg (by simp),if_pos rfl];have hq:setQ 31 (pc+1) (mkM c pc)=mkM (wrX 31 (pc+1) c) pc:=setQ_mk _ _ ⟨by omega,by omega⟩;unfold nextQ;rw [if_neg (by omega),if_pos h18,show (mkM c pc).pc=pc from rfl,hq];unfold jmpI;rw [if_neg (by omega),if_pos (.inr h18)];rfl
 have e2:exI (pc+1) i c=((reckonQ i (rgX c i.b) (rgX c i.c)).2.1,if (reckonQ i (rgX c i.b) (rgX c i.c)).2.1=0∧(reckonQ i (rgX c i.b) (rgX c i.c)).2.2=true then wrX i.a (reckonQ i (rgX c i.b) (rgX c i.c)).1 c else c):=by unfold exI;rw [if_neg h12,if_neg h13,if_neg h14,if_neg h18,if_neg h20]
 rw [e2];have hin:=reckon_in i (rgX c i.b) (rgX c i.c);by_cases h11:1≤i.op∧i.op≤11
 ·generalize reckonQ i (rgX c i.b) (rgX c i.c)=v at *;obtain ⟨v1,v2,v3⟩:=v;dsimp only at *;by_cases hv:v2=0
  ·subst hv;rw [if_neg (by simp),if_pos rfl];cases v3 with
   | false=>
    simp only [Bool.false_eq_true,if_false,and_false];unfold nextQ jmpI
    repeat rw [if_neg (by omega)]
    rfl
   | true=>
    simp only [if_true,and_true];rw [setQ_mk _ _ hin];unfold nextQ jmpI
    repeat rw [if_neg (by omega)]
    rfl
  ·rw [if_pos hv,if_neg hv];simp [hv]
 ·rw [reck_none (by omega)];dsimp only;rw [if_neg (by simp),if_pos rfl];simp only [Bool.false_eq_true,if_false,and_false];unfold nextQ jmpI;rw [rgQ_mk,rgQ_mk];by_cases h15:i.op=15∨i.op=16
  ·rw [if_pos h15,if_pos h15];split <;> rfl
  ·rw [if_neg h15,if_neg h15,if_neg h18];by_cases h17:i.op=17
   ·rw [if_pos h17,if_pos (.inl h17)];rfl
   ·rw [if_neg h17,if_neg (show ¬ (i.op=17∨i.op=18) by omega)];split <;> rfl
end Go.Proofs.YtkolmklfgbimoaaGreatDoor
