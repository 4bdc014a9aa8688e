/- Texts of the proof, in their order: Cm1, Cm2, Cm3, Cm4, Cm5, Cm6, Nb1, Br1, Shelf, Cw1, Ck1, Ck2, Ck3, Ck4, Ck5, Ck6, Ck7, Ck8, Ck9, Cka, Ckb, Ckc, Ckd, Cke, Ckf. -/
import Derived.Test.YtkolmklfgbimoaaGreatDoorM3
import Derived.Sort.Grow
import Derived.Deep.Draws
import Derived.Lib.LaidTab
import Derived.Shelf.Small.Bits
import Derived.Shelf.Small.Strs
import Derived.Shelf.Small.Wraps
import Derived.Shelf.Strconv.Itoa0
import Derived.Shelf.Strings.Search1
import Derived.Shelf.Sort.Plain
import Derived.Shelf.Strings.Prefix
import Derived.Shelf.Strings.Fields
import Derived.Shelf.Unicode.Latin
import Derived.Shelf.Bits.Mul64
import Derived.Shelf.Unicode.Is16White
import Derived.Shelf.Unicode.IsSpaceAny
import Derived.Shelf.Unicode.Is16Any
import Derived.Shelf.Unicode.Is32Any
import Derived.Shelf.Unicode.ExclAny
import Derived.Shelf.Slices.Turned
import Derived.Ground.Names2Prog
import Derived.Shelf.Slices.Clone
import Derived.Shelf.Slices.CompactI
import Derived.Shelf.Slices.Cells
import Derived.Shelf.Slices.In.SortNone
import Derived.Test.YtkolmklfgbimoaaGreatDoorProg
set_option linter.unusedVariables false
set_option linter.unusedSimpArgs false
set_option maxHeartbeats 16000000
set_option maxRecDepth 100000
namespace Go.Proofs.YtkolmklfgbimoaaGreatDoor.Cm
open Go
structure Th where
 mk ::
 (kind pl size:Int) (takes:Bool)
deriving DecidableEq
def th0:Th:=⟨0,0,0,false⟩
structure CS where
 mk ::
 (toks:List (Sc.Tk×Nat)) (en:Int) (code:List In) (pats:List Pa) (taken:Nat) (ents:List (ByteArray×Th)) (begs:List Nat) (name:ByteArray) (data:Int) (exps:List Sy) (imps:List ByteArray) (e bad:Int) (fac nest:Nat)
deriving DecidableEq
def wordsL:List (List UInt8):=[[112,114,111,103,114,97,109],[109,111,100,117,108,101],[118,97,114],[101,120,116,101,114,110,97,108],[112,114,111,99,101,100,117,114,101],[98,101,103,105,110],[101,110,100],[105,102],[116,104,101,110],[101,108,115,101],[119,104,105,108,101],[100,111],[119,114,105,116,101],[114,101,97,100],[110,111,116],[97,110,100],[111,114],[100,105,118],[109,111,100]]
def isWord (l:List UInt8):Bool:=wordsL.contains l
def mStop (e pl:Int) (s:CS):CS:={ s with e:=if s.e=0 then e else s.e,bad:=if s.e=0 then pl else s.bad,toks:=[] }
def mHere (s:CS):Int:=match s.toks with
 | []=>s.en
 | t::_=>(t.2:Int)
def mSees (w:List UInt8) (s:CS):Bool:=match s.toks with
 | []=>false
 | t::_=>decide (t.1.text=w) && (decide (t.1.kind=3) || (decide (t.1.kind=1) && isWord w))
def mTail (s:CS):CS:={ s with toks:=s.toks.tail }
def mHas (w:List UInt8) (s:CS):CS:=if mSees w s then mTail s else s
def mMust (w:List UInt8) (s:CS):CS:=if mSees w s then mTail s else mStop 2 (mHere s) s
def mNamed (s:CS):Bool:=match s.toks with
 | []=>false
 | t::_=>decide (t.1.kind=1) && !isWord t.1.text
def mText (s:CS):List UInt8:=match s.toks with
 | []=>[]
 | t::_=>t.1.text
def mName (s:CS):List UInt8×CS:=if mNamed s then (mText s,mTail s) else ([],mStop 2 (mHere s) s)
def mIsNum (s:CS):Bool:=match s.toks with
 | []=>false
 | t::_=>decide (t.1.kind=2)
def mNum (s:CS):Int:=match s.toks with
 | []=>0
 | t::_=>t.1.num
def mNumber (s:CS):Int×CS:=if mIsNum s then (mNum s,mTail s) else (0,mStop 2 (mHere s) s)
def decD (bs:List Nat) (i:Nat):Nat→Nat
 | 0=>0
 | d+1=>if i<bs.getD d 0 then decD bs i d else d+1
def findG (es:List (ByteArray×Th)) (bs:List Nat) (name:ByteArray):Nat→Nat→Th×Nat×Bool
 | 0,_=>(th0,0,false)
 | i+1,d=>if (es.getD i (.empty,th0)).1=name then ((es.getD i (.empty,th0)).2,decD bs i d,true) else findG es bs name i (decD bs i d)
def mFind (name:List UInt8) (s:CS):Th×Nat×Bool:=findG s.ents s.begs (Sc.bs name) s.ents.length s.begs.length
def mDefOk (name:List UInt8) (s:CS):Bool:=s.begs.length != 0 && !((mFind name s).2.2 && decide ((mFind name s).2.1=s.begs.length))
def mDef (name:List UInt8) (t:Th) (s:CS):CS:=if mDefOk name s then { s with ents:=s.ents++[(Sc.bs name,t)] } else s
def mOpen (s:CS):CS:={ s with begs:=s.begs++[s.ents.length] }
def mClose (s:CS):CS:=if s.begs.length=0 then s else { s with ents:=s.ents.take (s.begs.getLastD 0),begs:=s.begs.dropLast }
def mOwn (s:CS):List (ByteArray×Th):=if s.begs.length=0 then [] else s.ents.drop (s.begs.getLastD 0)
def mDefine (name:List UInt8) (pl:Int) (t:Th) (s:CS):CS:=if s.e=0 then (if mDefOk name s then mDef name t s else mStop 6 pl s) else s
def mLook (name:List UInt8) (pl:Int) (s:CS):Th×CS:=if (mFind name s).2.2 then ((mFind name s).1,s) else ((mFind name s).1,mStop 5 pl s)
def mPut (i:In) (s:CS):CS:={ s with code:=s.code++[i] }
def mMark (i:In) (kind n:Int) (s:CS):CS:=mPut i { s with pats:=s.pats++[⟨(s.code.length:Int),kind,n⟩] }
def isFar (i:In):Bool:=decide (i.op=17∨i.op=18)
def mJump (i:In) (s:CS):CS:=if isFar i then mMark i 0 0 s else mPut i s
def aimI (i:In) (pl tgt:Int):Option In:=if isFar i then some { i with imm:=tgt } else if i.op=15∨i.op=16 then some { i with imm:=tgt-pl-1 } else none
def aimL (l:List In) (pl tgt:Int):Option (List In):=if pl<0∨(l.length:Int)≤pl then none else match aimI (l.getD pl.toNat ⟨0,0,0,0,0⟩) pl tgt with
 | some j=>some (l.set pl.toNat j)
 | none=>none
def mAim (pl tgt:Int) (s:CS):CS:=match aimL s.code pl tgt with
 | some l=>{ s with code:=l }
 | none=>s
def mLand (pl:Int) (s:CS):CS:=mAim pl (s.code.length:Int) s
def mBack (i:In) (tgt:Int) (s:CS):CS:=mAim (s.code.length:Int) tgt (mJump i s)
def mTake (s:CS):CS:=if s.taken=8 then s else { s with taken:=s.taken+1 }
def mGive (s:CS):CS:={ s with taken:=s.taken-1 }
def mReg (pl:Int) (s:CS):Int×CS:=if s.taken=8 then (8,mStop 8 pl s) else (8+(s.taken:Int),mTake s)
def mInner (pl:Int) (f:CS→Int×CS) (s:CS):Int×CS:=
 if s.fac+1>16 then (8,mStop 8 pl { s with fac:=s.fac+1 })
 else ((f { s with fac:=s.fac+1 }).1,{ (f { s with fac:=s.fac+1 }).2 with fac:=(f { s with fac:=s.fac+1 }).2.fac-1 })
def mLoad (t:Th) (r:Int) (s:CS):CS:=if t.kind=2 then mPut ⟨12,r,30,0,t.pl⟩ s else mMark ⟨12,r,0,0,t.pl⟩ 1 0 s
def mStore (t:Th) (r:Int) (s:CS):CS:=if t.kind=2 then mPut ⟨13,r,30,0,t.pl⟩ s else mMark ⟨13,r,0,0,t.pl⟩ 1 0 s
def mConst (r n:Int) (s:CS):CS:=mPut ⟨10,r,0,0,n⟩ s
def mIndex (ex:CS→Int×CS) (t:Th) (s:CS):Int×CS:=
 let s1:=mMust [91] s
 if s1.e≠0 then (8,s1) else
 let r:=mInner (mHere s) ex s1
 (r.1,mPut ⟨14,r.1,0,0,t.size⟩ (mMust [93] r.2))
def mValue (ex:CS→Int×CS) (s:CS):Int×CS:=
 let pl:=mHere s
 let a:=mName s
 if a.2.e≠0 then (8,a.2) else
 let b:=mLook a.1 pl a.2
 if b.2.e≠0 then (8,b.2)
 else if b.1.kind=3∨b.1.kind=4 then (8,mStop 7 pl b.2)
 else if b.1.kind=1 then
  let r:=mIndex ex b.1 b.2
  (r.1,mMark ⟨12,r.1,r.1,0,b.1.pl⟩ 1 0 r.2)
 else
  let r:=mReg pl b.2
  (r.1,mLoad b.1 r.1 r.2)
def mFactorB (ex fa:CS→Int×CS) (s:CS):Int×CS:=
 let pl:=mHere s
 if mSees [40] s then
  let r:=mInner pl ex (mTail s)
  (r.1,mMust [41] r.2)
 else if mSees [45] s then
  let r:=mInner pl fa (mTail s)
  (r.1,mPut ⟨2,r.1,0,r.1,0⟩ r.2)
 else if mSees [110,111,116] s then
  let r:=mInner pl fa (mTail s)
  (r.1,mPut ⟨9,r.1,r.1,0,0⟩ r.2)
 else if mNamed s then mValue ex s
 else
  let a:=mNumber s
  if a.2.e≠0 then (8,a.2) else
  let r:=mReg pl a.2
  (r.1,mConst r.1 a.1 r.2)
def opsOf (ops:List (List UInt8×Int)) (w:List UInt8):Option Int:=match ops with
 | []=>none
 | (a,n)::r=>if a=w then some n else opsOf r w
def mJoin (part:CS→Int×CS) (ops:List (List UInt8×Int)) (n:Int):Nat→CS→CS
 | 0,s=>s
 | m+1,s=>if s.e=0∧s.toks≠[] then (match opsOf ops (mText s) with
  | none=>s
  | some op=>if mSees (mText s) s then mJoin part ops n m (mGive (mPut ⟨op,n,n,(part (mTail s)).1,0⟩ (part (mTail s)).2)) else s) else s
def mJoined (part:CS→Int×CS) (ops:List (List UInt8×Int)) (s:CS):Int×CS:=((part s).1,mJoin part ops (part s).1 (part s).2.toks.length (part s).2)
def termO:List (List UInt8×Int):=[([42],3),([100,105,118],4),([109,111,100],5),([97,110,100],6)]
def sumO:List (List UInt8×Int):=[([43],1),([45],2),([111,114],7)]
def mTerm (fa:CS→Int×CS):CS→Int×CS:=mJoined fa termO
def mSum (fa:CS→Int×CS):CS→Int×CS:=mJoined (mTerm fa) sumO
def cmpL:List (List UInt8):=[[61],[60,62],[60,61],[62,61],[60],[62]]
def mCmp (fa:CS→Int×CS) (n:Int) (w:List UInt8) (s:CS):CS:=
 let m:=(mSum fa (mTail s)).1
 let s1:=(mSum fa (mTail s)).2
 let op:Int:=if w=[61]∨w=[60,62] then 9 else 8
 let s2:=if w=[62]∨w=[60,61] then mPut ⟨op,n,m,n,0⟩ s1 else mPut ⟨op,n,n,m,0⟩ s1
 mGive (if w=[60,62]∨w=[60,61]∨w=[62,61] then mPut ⟨9,n,n,0,0⟩ s2 else s2)
def mCmps (fa:CS→Int×CS) (n:Int):List (List UInt8)→CS→CS
 | [],s=>s
 | w::l,s=>if s.e=0∧mSees w s then mCmp fa n w s else mCmps fa n l s
def mExprB (fa:CS→Int×CS) (s:CS):Int×CS:=((mSum fa s).1,mCmps fa (mSum fa s).1 cmpL (mSum fa s).2)
def mFactor:Nat→CS→Int×CS
 | 0,s=>(8,s)
 | n+1,s=>mFactorB (mExprB (mFactor n)) (mFactor n) s
def mExpr (N:Nat):CS→Int×CS:=mExprB (mFactor N)
def mAssign (N:Nat) (t:Th) (s:CS):CS:=
 if t.kind=1 then
  let a:=mIndex (mExpr N) t s
  let r:=mExpr N (mMust [58,61] a.2)
  mGive (mGive (mMark ⟨13,r.1,a.1,0,t.pl⟩ 1 0 r.2))
 else
  let r:=mExpr N (mMust [58,61] s)
  mGive (mStore t r.1 r.2)
def mArg (N:Nat) (t:Th) (s:CS):CS:=
 if t.takes then
  let r:=mExpr N (mMust [40] s)
  mGive (mPut ⟨1,4,r.1,0,0⟩ (mMust [41] r.2))
 else s
def mCall (N:Nat) (t:Th) (s:CS):CS:=
 if t.kind=4 then mMark ⟨18,0,0,0,0⟩ 2 t.pl (mArg N t s) else mBack ⟨18,0,0,0,0⟩ t.pl (mArg N t s)
def mBegun (N:Nat) (s:CS):CS:=
 let a:=mName s
 let b:=mLook a.1 (mHere s) a.2
 if b.2.e≠0 then b.2 else if b.1.kind=3∨b.1.kind=4 then mCall N b.1 b.2 else mAssign N b.1 b.2
def mWithin (pl:Int) (f:CS→CS) (s:CS):CS:=
 if s.nest+1>16 then mStop 8 pl { s with nest:=s.nest+1 }
 else { f { s with nest:=s.nest+1 } with nest:=(f { s with nest:=s.nest+1 }).nest-1 }
def mChoice (N:Nat) (f:CS→CS) (pl:Int) (s:CS):CS:=
 let r:=mExpr N s
 let s1:=mMust [116,104,101,110] r.2
 let over:=(s1.code.length:Int)
 let s2:=mWithin pl f (mGive (mJump ⟨15,r.1,0,0,0⟩ s1))
 if mSees [101,108,115,101] s2 then
  let s3:=mTail s2
  let end_:=(s3.code.length:Int)
  let s4:=mWithin pl f (mLand over (mJump ⟨17,0,0,0,0⟩ s3))
  mLand end_ (mMust [101,110,100] s4)
 else mLand over (mMust [101,110,100] s2)
def mLoop (N:Nat) (f:CS→CS) (pl:Int) (s:CS):CS:=
 let again:=(s.code.length:Int)
 let r:=mExpr N s
 let s1:=mMust [100,111] r.2
 let over:=(s1.code.length:Int)
 let s2:=mWithin pl f (mGive (mJump ⟨15,r.1,0,0,0⟩ s1))
 mLand over (mBack ⟨17,0,0,0,0⟩ again (mMust [101,110,100] s2))
def mReads (s:CS):CS:=
 let pl:=mHere s
 let a:=mName s
 let b:=mLook a.1 pl a.2
 let s1:=if b.2.e=0∧b.1.kind≠0∧b.1.kind≠2 then mStop 7 pl b.2 else b.2
 mStore b.1 4 (mPut ⟨20,0,0,0,1⟩ s1)
def mStmtB (N:Nat) (f:CS→CS) (s:CS):CS:=
 let pl:=mHere s
 if mSees [105,102] s then mChoice N f pl (mTail s)
 else if mSees [119,104,105,108,101] s then mLoop N f pl (mTail s)
 else if mSees [119,114,105,116,101] s then
  let r:=mExpr N (mTail s)
  mGive (mPut ⟨20,0,0,0,2⟩ (mPut ⟨1,4,r.1,0,0⟩ r.2))
 else if mSees [114,101,97,100] s then mReads (mTail s)
 else if mNamed s then mBegun N s
 else s
def mSeqs (st:CS→CS):Nat→CS→CS
 | 0,s=>s
 | m+1,s=>if s.e=0∧mSees [59] s then mSeqs st m (st (mTail s)) else s
def mStmtsB (st:CS→CS) (s:CS):CS:=mSeqs st (st s).toks.length (st s)
def mStmt (N:Nat):Nat→CS→CS
 | 0,s=>s
 | n+1,s=>mStmtB N (mStmtsB (mStmt N n)) s
def mStmts (N:Nat):CS→CS:=mStmtsB (mStmt N N)
def mDefs (s:CS):List (ByteArray×Th)→CS
 | []=>s
 | e::l=>mDefs (mDef (Sc.txt e.1) e.2 s) l
def mRedefine (name:List UInt8) (t:Th) (s:CS):CS:=
 mDefs (mOpen (mClose s)) ((mOwn s).map fun e=>if e.1=Sc.bs name then (e.1,t) else e)
def mVariable (s:CS):CS:=
 let pl:=mHere s
 let a:=mName s
 let s1:=mDefine a.1 pl ⟨0,a.2.data,1,false⟩ a.2
 if mSees [91] s1 then
  let s2:=mTail s1
  let pl2:=mHere s2
  let b:=mNumber s2
  if b.2.e≠0 then b.2
  else if b.1<1∨b.1>2000 then mStop 3 pl2 b.2
  else if b.2.data+b.1>32000 then mStop 4 pl2 b.2
  else
   let s3:=mMust [93] (mRedefine a.1 ⟨1,a.2.data,b.1,false⟩ b.2)
   mMust [59] { s3 with data:=s3.data+b.1 }
 else
  let s2:=if s1.e=0∧s1.data=32000 then mStop 4 pl s1 else s1
  mMust [59] { s2 with data:=s2.data+1 }
def mParam (s:CS):(List UInt8×Int×Bool)×CS:=
 if mSees [40] s then
  let s1:=mTail s
  let a:=mName s1
  ((a.1,mHere s1,true),mMust [41] a.2)
 else (([],0,false),s)
def mFresh (name:List UInt8) (pl n:Int) (s:CS):CS:=
 let s1:=if s.e=0∧(mFind name s).2.2=true then mStop 6 pl s else s
 if s1.e=0∧n=255 then mStop 4 pl s1 else s1
def mImported (s:CS):CS:=
 let pl:=mHere s
 let a:=mName s
 let n:=(a.2.imps.length:Int)
 let p:=mParam (mFresh a.1 pl n a.2)
 let s1:=mDefine a.1 pl ⟨4,n,0,p.1.2.2⟩ p.2
 mMust [59] { s1 with imps:=s1.imps++[Sc.bs a.1] }
def mOwns (name:List UInt8) (pl size:Int) (s:CS):CS:=
 let s1:=mDefine name pl ⟨2,size,0,false⟩ s
 if s1.e=0∧size-2=20 then mStop 4 pl s1 else s1
def mVars:Nat→Int→CS→Int×CS
 | 0,size,s=>(size,s)
 | m+1,size,s=>if s.e=0 then
   let a:=mName s
   let s1:=mOwns a.1 (mHere s) size a.2
   if mSees [44] s1 then mVars m (size+1) (mTail s1) else (size+1,s1)
  else (size,s)
def mEnters (takes:Bool):Nat→Int→CS→CS
 | 0,_,s=>s
 | m+1,n,s=>mEnters takes m (n+1) (mPut ⟨13,if takes=true∧n=2 then 4 else 0,30,0,n⟩ s)
def mEnter (size:Int) (takes:Bool) (s:CS):CS:=
 mEnters takes (size-2).toNat 2 (mPut ⟨10,30,29,0,0⟩ (mPut ⟨13,30,29,0,1⟩ (mPut ⟨13,31,29,0,0⟩ (mPut ⟨14,1,7,0,32767⟩ (mMark ⟨10,1,29,0,0⟩ 3 0 (mPut ⟨10,29,29,0,-size⟩ s))))))
def mLeave (size:Int) (s:CS):CS:=mPut ⟨19,31,0,0,0⟩ (mPut ⟨12,30,30,0,1⟩ (mPut ⟨12,31,30,0,0⟩ (mPut ⟨10,29,30,0,size⟩ s)))
def mRoutine (N:Nat) (s:CS):CS:=
 let pl:=mHere s
 let a:=mName s
 let here:=(a.2.code.length:Int)
 let p:=mParam (mFresh a.1 pl (a.2.exps.length:Int) a.2)
 let s1:=mDefine a.1 pl ⟨3,here,0,p.1.2.2⟩ p.2
 let s2:=mOpen (mMust [59] { s1 with exps:=s1.exps++[⟨Sc.bs a.1,here⟩] })
 let s3:=if p.1.2.2 then mOwns p.1.1 p.1.2.1 2 s2 else s2
 let size:Int:=if p.1.2.2 then 3 else 2
 let v:=if mSees [118,97,114] s3 then ((mVars (s3.toks.length) size (mTail s3)).1,mMust [59] (mVars (s3.toks.length) size (mTail s3)).2) else (size,s3)
 let s4:=mEnter v.1 p.1.2.2 (mMust [98,101,103,105,110] v.2)
 let s5:=mMust [59] (mMust [101,110,100] (mStmts N s4))
 mClose (mLeave v.1 s5)
def mDecls (N:Nat):Nat→CS→CS
 | 0,s=>s
 | m+1,s=>if s.e=0 then (if mSees [118,97,114] s then mDecls N m (mVariable (mTail s))
  else if mSees [101,120,116,101,114,110,97,108] s then mDecls N m (mImported (mTail s))
  else if mSees [112,114,111,99,101,100,117,114,101] s then mDecls N m (mRoutine N (mTail s))
  else s) else s
def mProgram (N:Nat) (s:CS):CS:=
 let main:=mSees [112,114,111,103,114,97,109] s
 let s1:=if main then mTail s else mMust [109,111,100,117,108,101] s
 let a:=mName s1
 let s2:=mOpen (mMust [59] { a.2 with name:=Sc.bs a.1 })
 let begin_:=if main then (s2.code.length:Int) else 0
 let s3:=if main then mJump ⟨17,0,0,0,0⟩ s2 else s2
 let s4:=mDecls N s3.toks.length s3
 let s5:=if main then mPut ⟨20,0,0,0,0⟩ (mStmts N (mMark ⟨10,29,0,0,0⟩ 4 0 (mLand begin_ (mMust [98,101,103,105,110] s4)))) else s4
 let s6:=mMust [46] (mMust [101,110,100] s5)
 if s6.e=0∧s6.toks≠[] then mStop 2 (mHere s6) s6 else s6
structure Ob6 where
 mk ::
 (name:ByteArray) (code:List In) (data:Int) (exps:List Sy) (imps:List ByteArray) (pats:List Pa)
deriving DecidableEq
def cs0 (toks:List (Sc.Tk×Nat)) (en:Int):CS:=⟨toks,en,[],[],0,[],[],.empty,0,[],[],0,0,0,0⟩
def compF (s:List UInt8):Option Ob6×Int×Int:=
 match Sc.scanD 0 s with
 | (l,pl,e)=>if e≠0 then (none,(pl:Int),e) else
  let c:=mProgram (l.length+1) (cs0 l (s.length:Int))
  let c2:=if c.e=0∧c.code.length>4096 then mStop 4 (s.length:Int) c else c
  if c2.e≠0 then (none,c2.bad,c2.e) else (some ⟨c2.name,c2.code,c2.data,c2.exps,c2.imps,c2.pats⟩,0,0)
def wt (s:CS):Int:=(s.code.length:Int)+s.pats.length+s.ents.length+s.begs.length+s.exps.length+s.imps.length+s.fac+s.nest+100*s.toks.length
structure Ex (k:Int) (s s':CS):Prop where
 en:s'.ents=s.ents
 bg:s'.begs=s.begs
 xp:s'.exps=s.exps
 im:s'.imps=s.imps
 da:s'.data=s.data
 tk:s.taken≤8→s'.taken≤8
 nm:∀ t∈s'.toks,t∈s.toks
 ln:s'.toks.length≤s.toks.length
 w:wt s'≤wt s+k
 fc:s.fac≤s'.fac
 ns:s.nest≤s'.nest
theorem Ex.tr {a b k:Int} {s s1 s2:CS} (h:Ex a s s1) (g:Ex b s1 s2) (hk:a+b≤k:=by omega):Ex k s s2:=
 ⟨g.en.trans h.en,g.bg.trans h.bg,g.xp.trans h.xp,g.im.trans h.im,g.da.trans h.da,fun x=>g.tk (h.tk x),fun t ht=>h.nm t (g.nm t ht),Nat.le_trans g.ln h.ln,by have:=h.w;have:=g.w;omega,Nat.le_trans h.fc g.fc,Nat.le_trans h.ns g.ns⟩
theorem Ex.up {a k:Int} {s s1:CS} (h:Ex a s s1) (hk:a≤k:=by omega):Ex k s s1:=⟨h.en,h.bg,h.xp,h.im,h.da,h.tk,h.nm,h.ln,by have:=h.w;omega,h.fc,h.ns⟩
theorem Ex.rf {k:Int} {s:CS} (hk:0≤k:=by omega):Ex k s s:=⟨rfl,rfl,rfl,rfl,rfl,id,fun _ h=>h,Nat.le_refl _,by omega,Nat.le_refl _,Nat.le_refl _⟩
theorem ex_stop (e pl:Int) (s:CS):Ex 0 s (mStop e pl s):=⟨rfl,rfl,rfl,rfl,rfl,id,(fun _ h=>by cases h),Nat.zero_le _,by simp only [wt,mStop,List.length_nil];omega,Nat.le_refl _,Nat.le_refl _⟩
theorem ex_tail {s:CS} (h:s.toks≠[]):Ex (-100) s (mTail s):=by
 obtain ⟨t,r,ht⟩:=List.exists_cons_of_ne_nil h;exact ⟨rfl,rfl,rfl,rfl,rfl,id,fun _ hm=>List.mem_of_mem_tail hm,by simp only [mTail,List.length_tail];omega,by simp only [wt,mTail,ht,List.tail_cons,List.length_cons];omega,Nat.le_refl _,Nat.le_refl _⟩
theorem sees_ne {w:List UInt8} {s:CS} (h:mSees w s=true):s.toks≠[]:=by
 intro ht;rw [mSees,ht] at h;exact absurd h (by simp)
theorem named_ne {s:CS} (h:mNamed s=true):s.toks≠[]:=by
 intro ht;rw [mNamed,ht] at h;exact absurd h (by simp)
theorem num_ne {s:CS} (h:mIsNum s=true):s.toks≠[]:=by
 intro ht;rw [mIsNum,ht] at h;exact absurd h (by simp)
theorem ex_sees {w:List UInt8} {s:CS} (h:mSees w s=true):Ex (-100) s (mTail s):=ex_tail (sees_ne h)
theorem ex_must (w:List UInt8) (s:CS):Ex 0 s (mMust w s):=by
 unfold mMust;split
 ·rename_i h;exact (ex_sees h).up
 ·exact ex_stop _ _ _
theorem ex_name (s:CS):Ex 0 s (mName s).2:=by
 unfold mName;split
 ·rename_i h;exact (ex_tail (named_ne h)).up
 ·exact ex_stop _ _ _
theorem ex_named {s:CS} (h:mNamed s=true):Ex (-100) s (mName s).2:=by
 unfold mName;rw [if_pos h];exact ex_tail (named_ne h)
theorem ex_number (s:CS):Ex 0 s (mNumber s).2:=by
 unfold mNumber;split
 ·rename_i h;exact (ex_tail (num_ne h)).up
 ·exact ex_stop _ _ _
theorem stop_e (e pl:Int) (s:CS) (he:e≠0):(mStop e pl s).e≠0:=by
 simp only [mStop];split
 ·exact he
 ·assumption
theorem ex_num {s:CS} (h:¬ (mNumber s).2.e≠0):Ex (-100) s (mNumber s).2∧mIsNum s=true∧mNumber s=(mNum s,mTail s):=by
 by_cases hn:mIsNum s=true
 ·have:mNumber s=(mNum s,mTail s):=by unfold mNumber;rw [if_pos hn]
  rw [this];exact ⟨ex_tail (num_ne hn),hn,rfl⟩
 ·exfalso;unfold mNumber at h;rw [if_neg hn] at h;exact h (stop_e _ _ _ (by decide))
theorem ex_put (i:In) (s:CS):Ex 1 s (mPut i s):=⟨rfl,rfl,rfl,rfl,rfl,id,fun _ h=>h,Nat.le_refl _,by simp only [wt,mPut,List.length_append,List.length_cons,List.length_nil];omega,Nat.le_refl _,Nat.le_refl _⟩
theorem ex_mark (i:In) (a n:Int) (s:CS):Ex 2 s (mMark i a n s):=⟨rfl,rfl,rfl,rfl,rfl,id,fun _ h=>h,Nat.le_refl _,by simp only [wt,mMark,mPut,List.length_append,List.length_cons,List.length_nil];omega,Nat.le_refl _,Nat.le_refl _⟩
theorem ex_jump (i:In) (s:CS):Ex 2 s (mJump i s):=by
 unfold mJump;split
 ·exact ex_mark _ _ _ _
 ·exact (ex_put _ _).up
theorem aimL_len {l l':List In} {pl tg:Int} (h:aimL l pl tg=some l'):l'.length=l.length:=by
 unfold aimL at h;split at h
 ·cases h
 ·split at h
  ·cases h;simp
  ·cases h
theorem ex_aim (pl tg:Int) (s:CS):Ex 0 s (mAim pl tg s):=by
 unfold mAim;split
 ·rename_i l h;exact ⟨rfl,rfl,rfl,rfl,rfl,id,fun _ h=>h,Nat.le_refl _,by simp only [wt,aimL_len h];omega,Nat.le_refl _,Nat.le_refl _⟩
 ·exact .rf
theorem ex_land (pl:Int) (s:CS):Ex 0 s (mLand pl s):=ex_aim _ _ _
theorem ex_back (i:In) (tg:Int) (s:CS):Ex 2 s (mBack i tg s):=(ex_jump i s).tr (ex_aim _ _ _)
theorem ex_take (s:CS):Ex 0 s (mTake s):=by
 unfold mTake;split
 ·exact .rf
 ·exact ⟨rfl,rfl,rfl,rfl,rfl,fun h=>by dsimp only;omega,fun _ h=>h,Nat.le_refl _,by simp only [wt];omega,Nat.le_refl _,Nat.le_refl _⟩
theorem ex_give (s:CS):Ex 0 s (mGive s):=⟨rfl,rfl,rfl,rfl,rfl,fun h=>by dsimp only [mGive];omega,fun _ h=>h,Nat.le_refl _,by simp only [wt,mGive];omega,Nat.le_refl _,Nat.le_refl _⟩
theorem ex_reg (pl:Int) (s:CS):Ex 0 s (mReg pl s).2:=by
 unfold mReg;split
 ·exact ex_stop _ _ _
 ·exact ex_take _
theorem ex_load (t:Th) (r:Int) (s:CS):Ex 2 s (mLoad t r s):=by
 unfold mLoad;split
 ·exact (ex_put _ _).up
 ·exact ex_mark _ _ _ _
theorem ex_store (t:Th) (r:Int) (s:CS):Ex 2 s (mStore t r s):=by
 unfold mStore;split
 ·exact (ex_put _ _).up
 ·exact ex_mark _ _ _ _
theorem ex_const (r n:Int) (s:CS):Ex 1 s (mConst r n s):=ex_put _ _
theorem ex_look (name:List UInt8) (pl:Int) (s:CS):Ex 0 s (mLook name pl s).2:=by
 unfold mLook;split
 ·exact .rf
 ·exact ex_stop _ _ _
theorem ex_fac (s:CS):Ex 1 s { s with fac:=s.fac+1 }:=⟨rfl,rfl,rfl,rfl,rfl,id,fun _ h=>h,Nat.le_refl _,by simp only [wt];omega,Nat.le_succ _,Nat.le_refl _⟩
theorem ex_inner {f:CS→Int×CS} (pl:Int) (s:CS) (hf:Ex 0 { s with fac:=s.fac+1 } (f { s with fac:=s.fac+1 }).2):Ex 1 s (mInner pl f s).2:=by
 unfold mInner;split
 ·exact (ex_fac s).tr (ex_stop _ _ _)
 ·have h:=(ex_fac s).tr (k:=1) hf;exact ⟨h.en,h.bg,h.xp,h.im,h.da,h.tk,h.nm,h.ln,by have:=h.w;simp only [wt] at this ⊢;omega,by have:=hf.fc;dsimp only at this ⊢;omega,h.ns⟩
theorem ex_index {ex:CS→Int×CS} (hx:∀ s,Ex 0 s (ex s).2) (t:Th) (s:CS):Ex 2 s (mIndex ex t s).2:=by
 unfold mIndex;dsimp only;split
 ·exact (ex_must _ _).up
 ·exact (((ex_must _ _).tr (k:=1) (ex_inner _ _ (hx _))).tr (k:=1) (ex_must _ _)).tr (ex_put _ _)
theorem ex_value {ex:CS→Int×CS} (hx:∀ s,Ex 0 s (ex s).2) {s:CS} (hn:mNamed s=true):Ex 0 s (mValue ex s).2:=by
 have h0:=ex_named hn;unfold mValue;dsimp only;split
 ·exact h0.up
 ·have h1:=h0.tr (k := -100) (ex_look (mName s).1 (mHere s) _);split
  ·exact h1.up
  ·split
   ·exact h1.tr (ex_stop _ _ _)
   ·split
    ·exact (h1.tr (k := -98) (ex_index hx _ _)).tr (ex_mark _ _ _ _)
    ·exact (h1.tr (k := -100) (ex_reg _ _)).tr (ex_load _ _ _)
theorem ex_factorB {ex fa:CS→Int×CS} (hx:∀ s,Ex 0 s (ex s).2) (hf:∀ s,Ex 0 s (fa s).2) (s:CS):Ex 0 s (mFactorB ex fa s).2:=by
 unfold mFactorB;dsimp only;split
 ·rename_i h;exact ((ex_sees h).tr (k := -99) (ex_inner _ _ (hx _))).tr (ex_must _ _)
 ·split
  ·rename_i h;exact ((ex_sees h).tr (k := -99) (ex_inner _ _ (hf _))).tr (ex_put _ _)
  ·split
   ·rename_i h;exact ((ex_sees h).tr (k := -99) (ex_inner _ _ (hf _))).tr (ex_put _ _)
   ·split
    ·rename_i h;exact ex_value hx h
    ·split
     ·exact ex_number s
     ·rename_i h;exact ((ex_num h).1.tr (k := -100) (ex_reg _ _)).tr (ex_const _ _ _)
theorem ex_join {part:CS→Int×CS} (hp:∀ s,Ex 0 s (part s).2) (ops:List (List UInt8×Int)) (n:Int):∀ (m:Nat) (s:CS),Ex 0 s (mJoin part ops n m s)
 | 0,s=>.rf
 | m+1,s=>by
  unfold mJoin;split
  ·split
   ·exact .rf
   ·split
    ·rename_i h;exact ((((ex_sees h).tr (k := -100) (hp _)).tr (k := -99) (ex_put _ _)).tr (k := -99) (ex_give _)).tr (ex_join hp ops n m _)
    ·exact .rf
  ·exact .rf
theorem ex_joined {part:CS→Int×CS} (hp:∀ s,Ex 0 s (part s).2) (ops:List (List UInt8×Int)) (s:CS):Ex 0 s (mJoined part ops s).2:=(hp s).tr (ex_join hp ops _ _ _)
theorem ex_sum {fa:CS→Int×CS} (hf:∀ s,Ex 0 s (fa s).2) (s:CS):Ex 0 s (mSum fa s).2:=ex_joined (fun s=>ex_joined hf termO s) sumO s
theorem ex_cmp {fa:CS→Int×CS} (hf:∀ s,Ex 0 s (fa s).2) (n:Int) {w:List UInt8} {s:CS} (h:mSees w s=true):Ex 0 s (mCmp fa n w s):=by
 unfold mCmp;dsimp only;have h1:=(ex_sees h).tr (k := -100) (ex_sum hf _)
 split <;> split <;> first
  | exact ((h1.tr (k := -99) (ex_put _ _)).tr (k := -98) (ex_put _ _)).tr (ex_give _)
  | exact (h1.tr (k := -99) (ex_put _ _)).tr (ex_give _)
theorem ex_cmps {fa:CS→Int×CS} (hf:∀ s,Ex 0 s (fa s).2) (n:Int):∀ (l:List (List UInt8)) (s:CS),Ex 0 s (mCmps fa n l s)
 | [],s=>.rf
 | w::l,s=>by
  unfold mCmps;split
  ·rename_i h;exact ex_cmp hf n h.2
  ·exact ex_cmps hf n l s
theorem ex_exprB {fa:CS→Int×CS} (hf:∀ s,Ex 0 s (fa s).2) (s:CS):Ex 0 s (mExprB fa s).2:=(ex_sum hf s).tr (ex_cmps hf _ _ _)
theorem ex_factor:∀ (n:Nat) (s:CS),Ex 0 s (mFactor n s).2
 | 0,s=>.rf
 | n+1,s=>ex_factorB (fun s=>ex_exprB (ex_factor n) s) (ex_factor n) s
theorem ex_expr (N:Nat) (s:CS):Ex 0 s (mExpr N s).2:=ex_exprB (ex_factor N) s
theorem ex_assign (N:Nat) (t:Th) (s:CS):Ex 4 s (mAssign N t s):=by
 unfold mAssign;dsimp only;split
 ·exact (((((ex_index (ex_expr N) t s).tr (k:=2) (ex_must _ _)).tr (k:=2) (ex_expr N _)).tr (k:=4) (ex_mark _ _ _ _)).tr (k:=4) (ex_give _)).tr (ex_give _)
 ·exact (((ex_must _ _).tr (k:=0) (ex_expr N _)).tr (k:=2) (ex_store _ _ _)).tr (ex_give _)
theorem ex_arg (N:Nat) (t:Th) (s:CS):Ex 1 s (mArg N t s):=by
 unfold mArg;dsimp only;split
 ·exact ((((ex_must _ _).tr (k:=0) (ex_expr N _)).tr (k:=0) (ex_must _ _)).tr (k:=1) (ex_put _ _)).tr (ex_give _)
 ·exact .rf
theorem ex_call (N:Nat) (t:Th) (s:CS):Ex 3 s (mCall N t s):=by
 unfold mCall;split
 ·exact (ex_arg N t s).tr (ex_mark _ _ _ _)
 ·exact (ex_arg N t s).tr (ex_back _ _ _)
theorem ex_begun (N:Nat) {s:CS} (h:mNamed s=true):Ex 0 s (mBegun N s):=by
 unfold mBegun;dsimp only;have h1:=(ex_named h).tr (k := -100) (ex_look (mName s).1 (mHere s) _);split
 ·exact h1.up
 ·split
  ·exact h1.tr (ex_call _ _ _)
  ·exact h1.tr (ex_assign _ _ _)
theorem ex_nest (s:CS):Ex 1 s { s with nest:=s.nest+1 }:=⟨rfl,rfl,rfl,rfl,rfl,id,fun _ h=>h,Nat.le_refl _,by simp only [wt];omega,Nat.le_refl _,Nat.le_succ _⟩
theorem ex_within {f:CS→CS} (pl:Int) (s:CS) (hf:Ex 0 { s with nest:=s.nest+1 } (f { s with nest:=s.nest+1 })):Ex 1 s (mWithin pl f s):=by
 unfold mWithin;split
 ·exact (ex_nest s).tr (ex_stop _ _ _)
 ·have h:=(ex_nest s).tr (k:=1) hf;exact ⟨h.en,h.bg,h.xp,h.im,h.da,h.tk,h.nm,h.ln,by have:=h.w;simp only [wt] at this ⊢;omega,h.fc,by have:=hf.ns;dsimp only at this ⊢;omega⟩
theorem ex_choice (N:Nat) {f:CS→CS} (hf:∀ s,Ex 0 s (f s)) (pl:Int) (s:CS):Ex 10 s (mChoice N f pl s):=by
 unfold mChoice;dsimp only;have h1:=(((((ex_expr N s).tr (k:=0) (ex_must [116,104,101,110] _)).tr (k:=2) (ex_jump ⟨15,(mExpr N s).1,0,0,0⟩ _)).tr (k:=2) (ex_give _)).tr (k:=3) (ex_within pl _ (hf _)))
 split
 ·rename_i h;exact ((((((h1.tr (k:=3) ((ex_sees h).up (k:=0))).tr (k:=5) (ex_jump _ _)).tr (k:=5) (ex_land _ _)).tr (k:=6) (ex_within pl _ (hf _))).tr (k:=6) (ex_must _ _))).tr (ex_land _ _)
 ·exact (h1.tr (k:=3) (ex_must _ _)).tr (ex_land _ _)
theorem ex_loop (N:Nat) {f:CS→CS} (hf:∀ s,Ex 0 s (f s)) (pl:Int) (s:CS):Ex 10 s (mLoop N f pl s):=by
 unfold mLoop;dsimp only;exact ((((((((ex_expr N s).tr (k:=0) (ex_must [100,111] _)).tr (k:=2) (ex_jump _ _)).tr (k:=2) (ex_give _)).tr (k:=3) (ex_within pl _ (hf _))).tr (k:=3) (ex_must _ _)).tr (k:=5) (ex_back _ _ _))).tr (ex_land _ _)
theorem ex_reads (s:CS):Ex 3 s (mReads s):=by
 unfold mReads;dsimp only;have h1:=(ex_name s).tr (k:=0) (ex_look (mName s).1 (mHere s) _);split
 ·exact ((h1.tr (k:=0) (ex_stop _ _ _)).tr (k:=1) (ex_put _ _)).tr (ex_store _ _ _)
 ·exact (h1.tr (k:=1) (ex_put _ _)).tr (ex_store _ _ _)
theorem ex_stmtB (N:Nat) {f:CS→CS} (hf:∀ s,Ex 0 s (f s)) (s:CS):Ex 0 s (mStmtB N f s):=by
 unfold mStmtB;dsimp only;split
 ·rename_i h;exact (ex_sees h).tr (ex_choice N hf _ _)
 ·split
  ·rename_i h;exact (ex_sees h).tr (ex_loop N hf _ _)
  ·split
   ·rename_i h;exact ((((ex_sees h).tr (k := -100) (ex_expr N _)).tr (k := -99) (ex_put _ _)).tr (k := -98) (ex_put _ _)).tr (ex_give _)
   ·split
    ·rename_i h;exact (ex_sees h).tr (ex_reads _)
    ·split
     ·rename_i h;exact ex_begun N h
     ·exact .rf
theorem ex_seqs {st:CS→CS} (hs:∀ s,Ex 0 s (st s)):∀ (m:Nat) (s:CS),Ex 0 s (mSeqs st m s)
 | 0,s=>.rf
 | m+1,s=>by
  unfold mSeqs;split
  ·rename_i h;exact (((ex_sees h.2).tr (k := -100) (hs _)).tr (k := -100) (ex_seqs hs m _)).up
  ·exact .rf
theorem ex_stmtsB {st:CS→CS} (hs:∀ s,Ex 0 s (st s)) (s:CS):Ex 0 s (mStmtsB st s):=(hs s).tr (ex_seqs hs _ _)
theorem ex_stmt (N:Nat):∀ (n:Nat) (s:CS),Ex 0 s (mStmt N n s)
 | 0,s=>.rf
 | n+1,s=>ex_stmtB N (fun s=>ex_stmtsB (ex_stmt N n) s) s
theorem ex_stmts (N:Nat) (s:CS):Ex 0 s (mStmts N s):=ex_stmtsB (ex_stmt N N) s
structure GD (s:CS):Prop where
 tk:s.taken≤8
 bg:∀ b∈s.begs,b≤s.ents.length
 nm:∀ t∈s.toks,0≤t.1.num∧t.1.num≤32767
 so:s.begs.Pairwise (· ≤ ·)
structure Dx (k:Int) (s s':CS):Prop where
 g:GD s→GD s'
 w:wt s'≤wt s+k
 ln:s'.toks.length≤s.toks.length
theorem Dx.tr {a b k:Int} {s s1 s2:CS} (h:Dx a s s1) (g:Dx b s1 s2) (hk:a+b≤k:=by omega):Dx k s s2:=⟨fun x=>g.g (h.g x),by have:=h.w;have:=g.w;omega,Nat.le_trans g.ln h.ln⟩
theorem Dx.up {a k:Int} {s s1:CS} (h:Dx a s s1) (hk:a≤k:=by omega):Dx k s s1:=⟨h.g,by have:=h.w;omega,h.ln⟩
theorem Dx.rf {k:Int} {s:CS} (hk:0≤k:=by omega):Dx k s s:=⟨id,by omega,Nat.le_refl _⟩
theorem Ex.dx {k:Int} {s s1:CS} (e:Ex k s s1):Dx k s s1:=⟨fun h=>⟨e.tk h.tk,by rw [e.en,e.bg];exact h.bg,fun t ht=>h.nm t (e.nm t ht),by rw [e.bg];exact h.so⟩,e.w,e.ln⟩
theorem dx_def (name:List UInt8) (t:Th) (s:CS):Dx 1 s (mDef name t s):=by
 unfold mDef;split
 ·exact ⟨fun h=>⟨h.tk,fun b hb=>by have:=h.bg b hb;simp only [List.length_append,List.length_cons,List.length_nil];omega,h.nm,h.so⟩,by simp only [wt,List.length_append,List.length_cons,List.length_nil];omega,Nat.le_refl _⟩
 ·exact .rf
theorem dx_define (name:List UInt8) (pl:Int) (t:Th) (s:CS):Dx 1 s (mDefine name pl t s):=by
 unfold mDefine;split
 ·split
  ·exact dx_def _ _ _
  ·exact (ex_stop _ _ _).dx.up
 ·exact .rf
theorem dx_open (s:CS):Dx 1 s (mOpen s):=by
 refine ⟨fun h=>⟨h.tk,fun b hb=>?_,h.nm,?_⟩,by simp only [wt,mOpen,List.length_append,List.length_cons,List.length_nil];omega,Nat.le_refl _⟩
 ·simp only [mOpen,List.mem_append,List.mem_cons,List.not_mem_nil,or_false] at hb;rcases hb with hb | rfl
  ·exact h.bg b hb
  ·exact Nat.le_refl _
 ·simp only [mOpen];rw [List.pairwise_append];refine ⟨h.so,List.pairwise_singleton _ _,fun a ha b hb=>?_⟩;simp only [List.mem_cons,List.not_mem_nil,or_false] at hb;subst hb;exact h.bg a ha
theorem dx_close (s:CS):Dx 0 s (mClose s):=by
 unfold mClose;split
 ·exact .rf
 ·rename_i hk;have hne:s.begs≠[]:=fun h=>hk (by rw [h];rfl)
  have hL:s.begs.getLastD 0=s.begs.getLast hne:=by rw [List.getLastD_eq_getLast?,List.getLast?_eq_some_getLast hne];rfl
  refine ⟨fun h=>⟨h.tk,fun b hb=>?_,h.nm,?_⟩,?_,Nat.le_refl _⟩
  ·dsimp only at hb ⊢;rw [List.length_take,hL];have h1:=h.bg _ (List.getLast_mem hne)
   have h2:b≤s.begs.getLast hne:=by
    have h3:=h.so;rw [← List.dropLast_concat_getLast hne,List.pairwise_append] at h3;exact h3.2.2 b hb _ (List.mem_singleton.2 rfl)
   omega
  ·exact h.so.sublist (List.dropLast_sublist _)
  ·simp only [wt,List.length_take,List.length_dropLast];omega
theorem ex_param (s:CS):Ex 0 s (mParam s).2:=by
 unfold mParam;dsimp only;split
 ·rename_i h;exact (((ex_sees h).tr (k := -100) (ex_name _)).tr (k := -100) (ex_must _ _)).up
 ·exact .rf
theorem ex_fresh (name:List UInt8) (pl n:Int) (s:CS):Ex 0 s (mFresh name pl n s):=by
 unfold mFresh;dsimp only
 split <;> split <;> first
  | exact (ex_stop _ _ _).tr (ex_stop _ _ _)
  | exact ex_stop _ _ _
  | exact .rf
theorem dx_imp (n:ByteArray) (s:CS):Dx 1 s { s with imps:=s.imps++[n] }:=⟨fun h=>⟨h.tk,h.bg,h.nm,h.so⟩,by simp only [wt,List.length_append,List.length_cons,List.length_nil];omega,Nat.le_refl _⟩
theorem dx_exp (n:Sy) (s:CS):Dx 1 s { s with exps:=s.exps++[n] }:=⟨fun h=>⟨h.tk,h.bg,h.nm,h.so⟩,by simp only [wt,List.length_append,List.length_cons,List.length_nil];omega,Nat.le_refl _⟩
theorem dx_imported (s:CS):Dx 2 s (mImported s):=by
 unfold mImported;dsimp only;exact (((((ex_name s).tr (k:=0) (ex_fresh _ _ _ _)).tr (k:=0) (ex_param _)).dx.tr (k:=1) (dx_define _ _ _ _)).tr (k:=2) (dx_imp _ _)).tr (ex_must _ _).dx
theorem dx_owns (name:List UInt8) (pl size:Int) (s:CS):Dx 1 s (mOwns name pl size s):=by
 unfold mOwns;dsimp only;split
 ·exact (dx_define _ _ _ _).tr (ex_stop _ _ _).dx
 ·exact dx_define _ _ _ _
theorem dx_vars:∀ (m:Nat) (size:Int) (s:CS),GD s→GD (mVars m size s).2∧(mVars m size s).2.toks.length≤s.toks.length∧size≤(mVars m size s).1∧wt (mVars m size s).2+2*(mVars m size s).1≤wt s+2*size+3
 | 0,size,s,h=>⟨h,Nat.le_refl _,Int.le_refl _,by simp only [mVars];omega⟩
 | m+1,size,s,h=>by
  unfold mVars;dsimp only;have h1:=((ex_name s).dx.tr (k:=1) (dx_owns (mName s).1 (mHere s) size _))
  split
  ·split
   ·rename_i hs;have h2:=h1.tr (k := -99) (ex_sees hs).dx;obtain ⟨a,b,c,d⟩:=dx_vars m (size+1) _ (h2.g h);exact ⟨a,Nat.le_trans b h2.ln,by omega,by have:=h2.w;omega⟩
   ·exact ⟨h1.g h,h1.ln,by omega,by have:=h1.w;dsimp only;omega⟩
  ·exact ⟨h,Nat.le_refl _,Int.le_refl _,by dsimp only;omega⟩
theorem ex_enters (takes:Bool):∀ (m:Nat) (n:Int) (s:CS),Ex m s (mEnters takes m n s)
 | 0,n,s=>.rf
 | m+1,n,s=>by
  unfold mEnters;exact (ex_put _ s).tr (ex_enters takes m (n+1) _)
theorem ex_enter (size:Int) (takes:Bool) (h:2≤size) (s:CS):Ex (size+5) s (mEnter size takes s):=by
 unfold mEnter;exact ((((((ex_put _ s).tr (k:=3) (ex_mark _ _ _ _)).tr (k:=4) (ex_put _ _)).tr (k:=5) (ex_put _ _)).tr (k:=6) (ex_put _ _)).tr (k:=7) (ex_put _ _)).tr (ex_enters takes _ 2 _)
theorem ex_leave (size:Int) (s:CS):Ex 4 s (mLeave size s):=(((ex_put _ s).tr (k:=2) (ex_put _ _)).tr (k:=3) (ex_put _ _)).tr (ex_put _ _)
theorem dx_routine (N:Nat) (s:CS) (hg:GD s):GD (mRoutine N s)∧wt (mRoutine N s)≤wt s+60∧(mRoutine N s).toks.length≤s.toks.length:=by
 unfold mRoutine;dsimp only;have e3:=((ex_name s).tr (k:=0) (ex_fresh (mName s).1 (mHere s) (((mName s).2.exps.length:Nat):Int) (mName s).2)).tr (k:=0) (ex_param _);generalize mParam (mFresh (mName s).1 (mHere s) (((mName s).2.exps.length:Nat):Int) (mName s).2)=p at *;obtain ⟨⟨pn,pp,pt⟩,s3⟩:=p;dsimp only at *;have d6:=(((e3.dx.tr (k:=1) (dx_define (mName s).1 (mHere s) ⟨3,((mName s).2.code.length:Int),0,pt⟩ s3)).tr (k:=2) (dx_exp ⟨Sc.bs (mName s).1,((mName s).2.code.length:Int)⟩ _)).tr (k:=2) (ex_must [59] _).dx).tr (k:=3) (dx_open _);generalize mOpen (mMust [59] { mDefine (mName s).1 (mHere s) ⟨3,((mName s).2.code.length:Int),0,pt⟩ s3 with exps:=(mDefine (mName s).1 (mHere s) ⟨3,((mName s).2.code.length:Int),0,pt⟩ s3).exps++[⟨Sc.bs (mName s).1,((mName s).2.code.length:Int)⟩] })=s6 at *
 have hend:∀ (sz:Int) (q:CS),2≤sz→GD q→GD (mClose (mLeave sz (mMust [59] (mMust [101,110,100] (mStmts N (mEnter sz pt (mMust [98,101,103,105,110] q)))))))∧wt (mClose (mLeave sz (mMust [59] (mMust [101,110,100] (mStmts N (mEnter sz pt (mMust [98,101,103,105,110] q)))))))≤wt q+sz+9∧(mClose (mLeave sz (mMust [59] (mMust [101,110,100] (mStmts N (mEnter sz pt (mMust [98,101,103,105,110] q))))))).toks.length≤q.toks.length:=by
  intro sz q h2 gq;have e:=(((((ex_must [98,101,103,105,110] q).tr (k:=sz+5) (ex_enter sz pt h2 _)).tr (k:=sz+5) (ex_stmts N _)).tr (k:=sz+5) (ex_must [101,110,100] _)).tr (k:=sz+5) (ex_must [59] _)).tr (k:=sz+9) (ex_leave sz _);have d:=e.dx.tr (k:=sz+9) (dx_close _);exact ⟨d.g gq,by have:=d.w;omega,d.ln⟩
 cases pt with
 | true=>
  simp only [if_true];have d7:=d6.tr (k:=4) (dx_owns pn pp 2 s6);generalize mOwns pn pp 2 s6=s7 at *;have w7:=d7.w;split
  ·rename_i hv;have e8:=ex_sees hv;have w8:=e8.w;obtain ⟨a,b,c,d⟩:=dx_vars s7.toks.length 3 (mTail s7) (e8.dx.g (d7.g hg));generalize mVars s7.toks.length 3 (mTail s7)=R at *;have e9:=ex_must [59] R.2;have w9:=e9.w;have p9:0≤wt R.2:=by unfold wt;omega
   obtain ⟨x,y,z⟩:=hend R.1 _ (by omega) (e9.dx.g a);have q9:0≤wt (mMust [59] R.2):=by unfold wt;omega
   exact ⟨x,by dsimp only;omega,by have:=e9.ln;have:=e8.ln;have:=d7.ln;dsimp only;omega⟩
  ·obtain ⟨x,y,z⟩:=hend 3 s7 (by omega) (d7.g hg);exact ⟨x,by dsimp only;omega,by have:=d7.ln;dsimp only;omega⟩
 | false=>
  simp only [if_neg (show ¬ (false=true) by decide)];have w6:=d6.w;split
  ·rename_i hv;have e8:=ex_sees hv;have w8:=e8.w;obtain ⟨a,b,c,d⟩:=dx_vars s6.toks.length 2 (mTail s6) (e8.dx.g (d6.g hg));generalize mVars s6.toks.length 2 (mTail s6)=R at *;have e9:=ex_must [59] R.2;have w9:=e9.w;obtain ⟨x,y,z⟩:=hend R.1 _ (by omega) (e9.dx.g a);exact ⟨x,by dsimp only;omega,by have:=e9.ln;have:=e8.ln;have:=d6.ln;dsimp only;omega⟩
  ·obtain ⟨x,y,z⟩:=hend 2 s6 (by omega) (d6.g hg);exact ⟨x,by dsimp only;omega,by have:=d6.ln;dsimp only;omega⟩
theorem wt_close (s:CS):wt (mClose s)+(mOwn s).length≤wt s:=by
 unfold mClose mOwn;split
 ·simp
 ·rename_i h;simp only [wt,List.length_take,List.length_drop,List.length_dropLast];omega
theorem dx_defs:∀ (l:List (ByteArray×Th)) (s:CS),Dx l.length s (mDefs s l)
 | [],s=>.rf
 | e::l,s=>by
  unfold mDefs;exact (dx_def _ _ s).tr (dx_defs l _) (by simp only [List.length_cons];omega)
theorem dx_redefine (name:List UInt8) (t:Th) (s:CS):Dx 1 s (mRedefine name t s):=by
 unfold mRedefine;have h1:=(dx_close s).tr (k:=1) (dx_open _);have h2:=dx_defs ((mOwn s).map fun e=>if e.1=Sc.bs name then (e.1,t) else e) (mOpen (mClose s));rw [List.length_map] at h2;have h3:=wt_close s;have h4:=(dx_open (mClose s)).w;exact ⟨fun g=>h2.g (h1.g g),by have:=h2.w;omega,Nat.le_trans h2.ln h1.ln⟩
theorem dx_data (s:CS) (d:Int):Dx 0 s { s with data:=d }:=⟨fun h=>⟨h.tk,h.bg,h.nm,h.so⟩,by simp only [wt];omega,Nat.le_refl _⟩
theorem dx_variable (s:CS):Dx 3 s (mVariable s):=by
 unfold mVariable;dsimp only;have h1:=(ex_name s).dx.tr (k:=1) (dx_define (mName s).1 (mHere s) ⟨0,(mName s).2.data,1,false⟩ _);split
 ·rename_i hs;have h2:=(h1.tr (k := -99) (ex_sees hs).dx).tr (k := -99) (ex_number _).dx;split
  ·exact h2.up
  ·split
   ·exact (h2.tr (k := -99) (ex_stop _ _ _).dx).up
   ·split
    ·exact (h2.tr (k := -99) (ex_stop _ _ _).dx).up
    ·exact ((((h2.tr (k := -98) (dx_redefine _ _ _)).tr (k := -98) (ex_must _ _).dx).tr (k := -98) (dx_data _ _)).tr (k := -98) (ex_must _ _).dx).up
 ·split
  ·exact ((h1.tr (k:=1) (ex_stop _ _ _).dx).tr (k:=1) (dx_data _ _)).tr (ex_must _ _).dx
  ·exact (h1.tr (k:=1) (dx_data _ _)).tr (ex_must _ _).dx
theorem dx_decls (N:Nat):∀ (m:Nat) (s:CS),GD s→GD (mDecls N m s)∧wt (mDecls N m s)≤wt s∧(mDecls N m s).toks.length≤s.toks.length
 | 0,s,h=>⟨h,Int.le_refl _,Nat.le_refl _⟩
 | m+1,s,h=>by
  unfold mDecls;split
  ·split
   ·rename_i hs;have h1:=(ex_sees hs).dx.tr (k := -97) (dx_variable _);obtain ⟨a,b,c⟩:=dx_decls N m _ (h1.g h);exact ⟨a,by have:=h1.w;omega,Nat.le_trans c h1.ln⟩
   ·split
    ·rename_i hs;have h1:=(ex_sees hs).dx.tr (k := -98) (dx_imported _);obtain ⟨a,b,c⟩:=dx_decls N m _ (h1.g h);exact ⟨a,by have:=h1.w;omega,Nat.le_trans c h1.ln⟩
    ·split
     ·rename_i hs;have h0:=(ex_sees hs).dx;obtain ⟨x,y,z⟩:=dx_routine N _ (h0.g h);obtain ⟨a,b,c⟩:=dx_decls N m _ x;exact ⟨a,by have:=h0.w;omega,Nat.le_trans c (Nat.le_trans z h0.ln)⟩
     ·exact ⟨h,Int.le_refl _,Nat.le_refl _⟩
  ·exact ⟨h,Int.le_refl _,Nat.le_refl _⟩
structure Nb (M:Nat) (s:CS):Prop where
 na:s.name.size≤M
 xp:∀ x∈s.exps,x.name.size≤M
 im:∀ x∈s.imps,x.size≤M
 tk:∀ t∈s.toks,t.1.kind=1→t.1.text.length≤M
structure Nx (s s':CS):Prop where
 g:∀ M,Nb M s→Nb M s'
theorem Nx.tr {s s1 s2:CS} (h:Nx s s1) (g:Nx s1 s2):Nx s s2:=⟨fun M x=>g.g M (h.g M x)⟩
theorem Nx.rf {s:CS}:Nx s s:=⟨fun _ x=>x⟩
theorem nx_same {s s':CS} (h1:s'.name=s.name) (h2:s'.exps=s.exps) (h3:s'.imps=s.imps) (h4:∀ t∈s'.toks,t∈s.toks):Nx s s':=
 ⟨fun M x=>⟨by rw [h1];exact x.na,by rw [h2];exact x.xp,by rw [h3];exact x.im,fun t ht=>x.tk t (h4 t ht)⟩⟩
theorem nx_stop (e pl:Int) (s:CS):Nx s (mStop e pl s):=nx_same rfl rfl rfl (fun _ h=>by cases h)
theorem nx_tail {s:CS} (h:s.toks≠[]):Nx s (mTail s):=nx_same rfl rfl rfl (fun _ hm=>List.mem_of_mem_tail hm)
theorem nx_put (i:In) (s:CS):Nx s (mPut i s):=nx_same rfl rfl rfl (fun _ h=>h)
theorem nx_mark (i:In) (a n:Int) (s:CS):Nx s (mMark i a n s):=nx_same rfl rfl rfl (fun _ h=>h)
theorem nx_aim (pl tg:Int) (s:CS):Nx s (mAim pl tg s):=by
 unfold mAim;split
 ·exact nx_same rfl rfl rfl (fun _ h=>h)
 ·exact .rf
theorem nx_take (s:CS):Nx s (mTake s):=by
 unfold mTake;split
 ·exact .rf
 ·exact nx_same rfl rfl rfl (fun _ h=>h)
theorem nx_give (s:CS):Nx s (mGive s):=nx_same rfl rfl rfl (fun _ h=>h)
theorem nx_fac (s:CS):Nx s { s with fac:=s.fac+1 }:=nx_same rfl rfl rfl (fun _ h=>h)
theorem nx_inner {f:CS→Int×CS} (pl:Int) (s:CS) (hf:Nx { s with fac:=s.fac+1 } (f { s with fac:=s.fac+1 }).2):Nx s (mInner pl f s).2:=by
 unfold mInner;split
 ·exact (nx_fac s).tr (nx_stop _ _ _)
 ·exact ((nx_fac s).tr hf).tr (nx_same rfl rfl rfl (fun _ h=>h))
theorem nx_nest (s:CS):Nx s { s with nest:=s.nest+1 }:=nx_same rfl rfl rfl (fun _ h=>h)
theorem nx_within {f:CS→CS} (pl:Int) (s:CS) (hf:Nx { s with nest:=s.nest+1 } (f { s with nest:=s.nest+1 })):Nx s (mWithin pl f s):=by
 unfold mWithin;split
 ·exact (nx_nest s).tr (nx_stop _ _ _)
 ·exact ((nx_nest s).tr hf).tr (nx_same rfl rfl rfl (fun _ h=>h))
theorem nx_def (name:List UInt8) (t:Th) (s:CS):Nx s (mDef name t s):=by
 unfold mDef;split
 ·exact nx_same rfl rfl rfl (fun _ h=>h)
 ·exact .rf
theorem nx_open (s:CS):Nx s (mOpen s):=nx_same rfl rfl rfl (fun _ h=>h)
theorem nx_close (s:CS):Nx s (mClose s):=by
 unfold mClose;split
 ·exact .rf
 ·exact nx_same rfl rfl rfl (fun _ h=>h)
theorem nx_sees {w:List UInt8} {s:CS} (h:mSees w s=true):Nx s (mTail s):=nx_tail (sees_ne h)
theorem nx_must (w:List UInt8) (s:CS):Nx s (mMust w s):=by
 unfold mMust;split
 ·rename_i h;exact (nx_sees h)
 ·exact nx_stop _ _ _
theorem nx_name (s:CS):Nx s (mName s).2:=by
 unfold mName;split
 ·rename_i h;exact (nx_tail (named_ne h))
 ·exact nx_stop _ _ _
theorem nx_named {s:CS} (h:mNamed s=true):Nx s (mName s).2:=by
 unfold mName;rw [if_pos h];exact nx_tail (named_ne h)
theorem nx_number (s:CS):Nx s (mNumber s).2:=by
 unfold mNumber;split
 ·rename_i h;exact (nx_tail (num_ne h))
 ·exact nx_stop _ _ _
theorem nx_num {s:CS} (h:¬ (mNumber s).2.e≠0):Nx s (mNumber s).2∧mIsNum s=true∧mNumber s=(mNum s,mTail s):=by
 by_cases hn:mIsNum s=true
 ·have:mNumber s=(mNum s,mTail s):=by unfold mNumber;rw [if_pos hn]
  rw [this];exact ⟨nx_tail (num_ne hn),hn,rfl⟩
 ·exfalso;unfold mNumber at h;rw [if_neg hn] at h;exact h (stop_e _ _ _ (by decide))
theorem nx_jump (i:In) (s:CS):Nx s (mJump i s):=by
 unfold mJump;split
 ·exact nx_mark _ _ _ _
 ·exact (nx_put _ _)
theorem nx_land (pl:Int) (s:CS):Nx s (mLand pl s):=nx_aim _ _ _
theorem nx_back (i:In) (tg:Int) (s:CS):Nx s (mBack i tg s):=(nx_jump i s).tr (nx_aim _ _ _)
theorem nx_reg (pl:Int) (s:CS):Nx s (mReg pl s).2:=by
 unfold mReg;split
 ·exact nx_stop _ _ _
 ·exact nx_take _
theorem nx_load (t:Th) (r:Int) (s:CS):Nx s (mLoad t r s):=by
 unfold mLoad;split
 ·exact (nx_put _ _)
 ·exact nx_mark _ _ _ _
theorem nx_store (t:Th) (r:Int) (s:CS):Nx s (mStore t r s):=by
 unfold mStore;split
 ·exact (nx_put _ _)
 ·exact nx_mark _ _ _ _
theorem nx_const (r n:Int) (s:CS):Nx s (mConst r n s):=nx_put _ _
theorem nx_look (name:List UInt8) (pl:Int) (s:CS):Nx s (mLook name pl s).2:=by
 unfold mLook;split
 ·exact .rf
 ·exact nx_stop _ _ _
theorem nx_index {ex:CS→Int×CS} (hx:∀ s,Nx s (ex s).2) (t:Th) (s:CS):Nx s (mIndex ex t s).2:=by
 unfold mIndex;dsimp only;split
 ·exact (nx_must _ _)
 ·exact (((nx_must _ _).tr (nx_inner _ _ (hx _))).tr (nx_must _ _)).tr (nx_put _ _)
theorem nx_value {ex:CS→Int×CS} (hx:∀ s,Nx s (ex s).2) {s:CS} (hn:mNamed s=true):Nx s (mValue ex s).2:=by
 have h0:=nx_named hn;unfold mValue;dsimp only;split
 ·exact h0
 ·have h1:=h0.tr (nx_look (mName s).1 (mHere s) _);split
  ·exact h1
  ·split
   ·exact h1.tr (nx_stop _ _ _)
   ·split
    ·exact (h1.tr (nx_index hx _ _)).tr (nx_mark _ _ _ _)
    ·exact (h1.tr (nx_reg _ _)).tr (nx_load _ _ _)
theorem nx_factorB {ex fa:CS→Int×CS} (hx:∀ s,Nx s (ex s).2) (hf:∀ s,Nx s (fa s).2) (s:CS):Nx s (mFactorB ex fa s).2:=by
 unfold mFactorB;dsimp only;split
 ·rename_i h;exact ((nx_sees h).tr (nx_inner _ _ (hx _))).tr (nx_must _ _)
 ·split
  ·rename_i h;exact ((nx_sees h).tr (nx_inner _ _ (hf _))).tr (nx_put _ _)
  ·split
   ·rename_i h;exact ((nx_sees h).tr (nx_inner _ _ (hf _))).tr (nx_put _ _)
   ·split
    ·rename_i h;exact nx_value hx h
    ·split
     ·exact nx_number s
     ·rename_i h;exact ((nx_num h).1.tr (nx_reg _ _)).tr (nx_const _ _ _)
theorem nx_join {part:CS→Int×CS} (hp:∀ s,Nx s (part s).2) (ops:List (List UInt8×Int)) (n:Int):∀ (m:Nat) (s:CS),Nx s (mJoin part ops n m s)
 | 0,s=>.rf
 | m+1,s=>by
  unfold mJoin;split
  ·split
   ·exact .rf
   ·split
    ·rename_i h;exact ((((nx_sees h).tr (hp _)).tr (nx_put _ _)).tr (nx_give _)).tr (nx_join hp ops n m _)
    ·exact .rf
  ·exact .rf
theorem nx_joined {part:CS→Int×CS} (hp:∀ s,Nx s (part s).2) (ops:List (List UInt8×Int)) (s:CS):Nx s (mJoined part ops s).2:=(hp s).tr (nx_join hp ops _ _ _)
theorem nx_sum {fa:CS→Int×CS} (hf:∀ s,Nx s (fa s).2) (s:CS):Nx s (mSum fa s).2:=nx_joined (fun s=>nx_joined hf termO s) sumO s
theorem nx_cmp {fa:CS→Int×CS} (hf:∀ s,Nx s (fa s).2) (n:Int) {w:List UInt8} {s:CS} (h:mSees w s=true):Nx s (mCmp fa n w s):=by
 unfold mCmp;dsimp only;have h1:=(nx_sees h).tr (nx_sum hf _)
 split <;> split <;> first
  | exact ((h1.tr (nx_put _ _)).tr (nx_put _ _)).tr (nx_give _)
  | exact (h1.tr (nx_put _ _)).tr (nx_give _)
theorem nx_cmps {fa:CS→Int×CS} (hf:∀ s,Nx s (fa s).2) (n:Int):∀ (l:List (List UInt8)) (s:CS),Nx s (mCmps fa n l s)
 | [],s=>.rf
 | w::l,s=>by
  unfold mCmps;split
  ·rename_i h;exact nx_cmp hf n h.2
  ·exact nx_cmps hf n l s
theorem nx_exprB {fa:CS→Int×CS} (hf:∀ s,Nx s (fa s).2) (s:CS):Nx s (mExprB fa s).2:=(nx_sum hf s).tr (nx_cmps hf _ _ _)
theorem nx_factor:∀ (n:Nat) (s:CS),Nx s (mFactor n s).2
 | 0,s=>.rf
 | n+1,s=>nx_factorB (fun s=>nx_exprB (nx_factor n) s) (nx_factor n) s
theorem nx_expr (N:Nat) (s:CS):Nx s (mExpr N s).2:=nx_exprB (nx_factor N) s
theorem nx_assign (N:Nat) (t:Th) (s:CS):Nx s (mAssign N t s):=by
 unfold mAssign;dsimp only;split
 ·exact (((((nx_index (nx_expr N) t s).tr (nx_must _ _)).tr (nx_expr N _)).tr (nx_mark _ _ _ _)).tr (nx_give _)).tr (nx_give _)
 ·exact (((nx_must _ _).tr (nx_expr N _)).tr (nx_store _ _ _)).tr (nx_give _)
theorem nx_arg (N:Nat) (t:Th) (s:CS):Nx s (mArg N t s):=by
 unfold mArg;dsimp only;split
 ·exact ((((nx_must _ _).tr (nx_expr N _)).tr (nx_must _ _)).tr (nx_put _ _)).tr (nx_give _)
 ·exact .rf
theorem nx_call (N:Nat) (t:Th) (s:CS):Nx s (mCall N t s):=by
 unfold mCall;split
 ·exact (nx_arg N t s).tr (nx_mark _ _ _ _)
 ·exact (nx_arg N t s).tr (nx_back _ _ _)
theorem nx_begun (N:Nat) {s:CS} (h:mNamed s=true):Nx s (mBegun N s):=by
 unfold mBegun;dsimp only;have h1:=(nx_named h).tr (nx_look (mName s).1 (mHere s) _);split
 ·exact h1
 ·split
  ·exact h1.tr (nx_call _ _ _)
  ·exact h1.tr (nx_assign _ _ _)
theorem nx_choice (N:Nat) {f:CS→CS} (hf:∀ s,Nx s (f s)) (pl:Int) (s:CS):Nx s (mChoice N f pl s):=by
 unfold mChoice;dsimp only;have h1:=(((((nx_expr N s).tr (nx_must [116,104,101,110] _)).tr (nx_jump ⟨15,(mExpr N s).1,0,0,0⟩ _)).tr (nx_give _)).tr (nx_within pl _ (hf _)))
 split
 ·rename_i h;exact ((((((h1.tr ((nx_sees h))).tr (nx_jump _ _)).tr (nx_land _ _)).tr (nx_within pl _ (hf _))).tr (nx_must _ _))).tr (nx_land _ _)
 ·exact (h1.tr (nx_must _ _)).tr (nx_land _ _)
theorem nx_loop (N:Nat) {f:CS→CS} (hf:∀ s,Nx s (f s)) (pl:Int) (s:CS):Nx s (mLoop N f pl s):=by
 unfold mLoop;dsimp only;exact ((((((((nx_expr N s).tr (nx_must [100,111] _)).tr (nx_jump _ _)).tr (nx_give _)).tr (nx_within pl _ (hf _))).tr (nx_must _ _)).tr (nx_back _ _ _))).tr (nx_land _ _)
theorem nx_reads (s:CS):Nx s (mReads s):=by
 unfold mReads;dsimp only;have h1:=(nx_name s).tr (nx_look (mName s).1 (mHere s) _);split
 ·exact ((h1.tr (nx_stop _ _ _)).tr (nx_put _ _)).tr (nx_store _ _ _)
 ·exact (h1.tr (nx_put _ _)).tr (nx_store _ _ _)
theorem nx_stmtB (N:Nat) {f:CS→CS} (hf:∀ s,Nx s (f s)) (s:CS):Nx s (mStmtB N f s):=by
 unfold mStmtB;dsimp only;split
 ·rename_i h;exact (nx_sees h).tr (nx_choice N hf _ _)
 ·split
  ·rename_i h;exact (nx_sees h).tr (nx_loop N hf _ _)
  ·split
   ·rename_i h;exact ((((nx_sees h).tr (nx_expr N _)).tr (nx_put _ _)).tr (nx_put _ _)).tr (nx_give _)
   ·split
    ·rename_i h;exact (nx_sees h).tr (nx_reads _)
    ·split
     ·rename_i h;exact nx_begun N h
     ·exact .rf
theorem nx_seqs {st:CS→CS} (hs:∀ s,Nx s (st s)):∀ (m:Nat) (s:CS),Nx s (mSeqs st m s)
 | 0,s=>.rf
 | m+1,s=>by
  unfold mSeqs;split
  ·rename_i h;exact (((nx_sees h.2).tr (hs _)).tr (nx_seqs hs m _))
  ·exact .rf
theorem nx_stmtsB {st:CS→CS} (hs:∀ s,Nx s (st s)) (s:CS):Nx s (mStmtsB st s):=(hs s).tr (nx_seqs hs _ _)
theorem nx_stmt (N:Nat):∀ (n:Nat) (s:CS),Nx s (mStmt N n s)
 | 0,s=>.rf
 | n+1,s=>nx_stmtB N (fun s=>nx_stmtsB (nx_stmt N n) s) s
theorem nx_stmts (N:Nat) (s:CS):Nx s (mStmts N s):=nx_stmtsB (nx_stmt N N) s
theorem nx_define (name:List UInt8) (pl:Int) (t:Th) (s:CS):Nx s (mDefine name pl t s):=by
 unfold mDefine;split
 ·split
  ·exact nx_def _ _ _
  ·exact (nx_stop _ _ _)
 ·exact .rf
theorem nx_param (s:CS):Nx s (mParam s).2:=by
 unfold mParam;dsimp only;split
 ·rename_i h;exact (((nx_sees h).tr (nx_name _)).tr (nx_must _ _))
 ·exact .rf
theorem nx_fresh (name:List UInt8) (pl n:Int) (s:CS):Nx s (mFresh name pl n s):=by
 unfold mFresh;dsimp only
 split <;> split <;> first
  | exact (nx_stop _ _ _).tr (nx_stop _ _ _)
  | exact nx_stop _ _ _
  | exact .rf
theorem nx_owns (name:List UInt8) (pl size:Int) (s:CS):Nx s (mOwns name pl size s):=by
 unfold mOwns;dsimp only;split
 ·exact (nx_define _ _ _ _).tr (nx_stop _ _ _)
 ·exact nx_define _ _ _ _
theorem nx_enters (takes:Bool):∀ (m:Nat) (n:Int) (s:CS),Nx s (mEnters takes m n s)
 | 0,n,s=>.rf
 | m+1,n,s=>by
  unfold mEnters;exact (nx_put _ s).tr (nx_enters takes m (n+1) _)
theorem nx_enter (size:Int) (takes:Bool) (s:CS):Nx s (mEnter size takes s):=by
 unfold mEnter;exact ((((((nx_put _ s).tr (nx_mark _ _ _ _)).tr (nx_put _ _)).tr (nx_put _ _)).tr (nx_put _ _)).tr (nx_put _ _)).tr (nx_enters takes _ 2 _)
theorem nx_leave (size:Int) (s:CS):Nx s (mLeave size s):=(((nx_put _ s).tr (nx_put _ _)).tr (nx_put _ _)).tr (nx_put _ _)
theorem name_le {M:Nat} {s:CS} (h:Nb M s):(mName s).1.length≤M:=by
 unfold mName;split
 ·rename_i hn;unfold mText;unfold mNamed at hn;cases ht:s.toks with
  | nil=>simp
  | cons t r=>
   rw [ht] at hn;simp only [Bool.and_eq_true,decide_eq_true_eq] at hn;exact h.tk t (by rw [ht];simp) hn.1
 ·simp
theorem nb_imp {M:Nat} {s:CS} {n:ByteArray} (h:Nb M s) (hn:n.size≤M):Nb M { s with imps:=s.imps++[n] }:=
 ⟨h.na,h.xp,fun x hx=>by
  rcases List.mem_append.1 hx with hx | hx
  ·exact h.im x hx
  ·rw [List.mem_singleton.1 hx];exact hn,h.tk⟩
theorem nb_exp {M:Nat} {s:CS} {n:Sy} (h:Nb M s) (hn:n.name.size≤M):Nb M { s with exps:=s.exps++[n] }:=
 ⟨h.na,fun x hx=>by
  rcases List.mem_append.1 hx with hx | hx
  ·exact h.xp x hx
  ·rw [List.mem_singleton.1 hx];exact hn,h.im,h.tk⟩
theorem nx_imported (s:CS):Nx s (mImported s):=⟨fun M h=>by
 have hn:(Sc.bs (mName s).1).size≤M:=by rw [Sc.bs_size];exact name_le h
 unfold mImported;dsimp only;exact (nx_must _ _).g M (nb_imp ((((((nx_name s).tr (nx_fresh _ _ _ _)).tr (nx_param _))).tr (nx_define _ _ _ _)).g M h) hn)⟩
theorem nx_vars:∀ (m:Nat) (size:Int) (s:CS),Nx s (mVars m size s).2
 | 0,size,s=>.rf
 | m+1,size,s=>by
  unfold mVars;dsimp only;have h1:=((nx_name s).tr (nx_owns (mName s).1 (mHere s) size _))
  split
  ·split
   ·rename_i hs;exact (h1.tr (nx_sees hs)).tr (nx_vars m (size+1) _)
   ·exact h1
  ·exact .rf
theorem nx_defs:∀ (l:List (ByteArray×Th)) (s:CS),Nx s (mDefs s l)
 | [],s=>.rf
 | e::l,s=>by
  unfold mDefs;exact (nx_def _ _ s).tr (nx_defs l _)
theorem nx_redefine (name:List UInt8) (t:Th) (s:CS):Nx s (mRedefine name t s):=by
 unfold mRedefine;exact ((nx_close s).tr (nx_open _)).tr (nx_defs _ _)
theorem nx_data (s:CS) (d:Int):Nx s { s with data:=d }:=nx_same rfl rfl rfl (fun _ h=>h)
theorem nx_variable (s:CS):Nx s (mVariable s):=by
 unfold mVariable;dsimp only;have h1:=(nx_name s).tr (nx_define (mName s).1 (mHere s) ⟨0,(mName s).2.data,1,false⟩ _);split
 ·rename_i hs;have h2:=(h1.tr (nx_sees hs)).tr (nx_number _);split
  ·exact h2
  ·split
   ·exact (h2.tr (nx_stop _ _ _))
   ·split
    ·exact (h2.tr (nx_stop _ _ _))
    ·exact ((((h2.tr (nx_redefine _ _ _)).tr (nx_must _ _)).tr (nx_data _ _)).tr (nx_must _ _))
 ·split
  ·exact ((h1.tr (nx_stop _ _ _)).tr (nx_data _ _)).tr (nx_must _ _)
  ·exact (h1.tr (nx_data _ _)).tr (nx_must _ _)
theorem nb_routine (N:Nat) (s:CS) (M:Nat) (h:Nb M s):Nb M (mRoutine N s):=by
 have hn:(Sc.bs (mName s).1).size≤M:=by rw [Sc.bs_size];exact name_le h
 unfold mRoutine;dsimp only;have e3:=(((nx_name s).tr (nx_fresh (mName s).1 (mHere s) (((mName s).2.exps.length:Nat):Int) (mName s).2)).tr (nx_param _)).g M h;generalize mParam (mFresh (mName s).1 (mHere s) (((mName s).2.exps.length:Nat):Int) (mName s).2)=p at *;obtain ⟨⟨pn,pp,pt⟩,s3⟩:=p;dsimp only at *;have d6:=((nx_must [59] _).tr (nx_open _)).g M (nb_exp (n:=⟨Sc.bs (mName s).1,((mName s).2.code.length:Int)⟩) ((nx_define (mName s).1 (mHere s) ⟨3,((mName s).2.code.length:Int),0,pt⟩ s3).g M e3) hn);generalize mOpen (mMust [59] { mDefine (mName s).1 (mHere s) ⟨3,((mName s).2.code.length:Int),0,pt⟩ s3 with exps:=(mDefine (mName s).1 (mHere s) ⟨3,((mName s).2.code.length:Int),0,pt⟩ s3).exps++[⟨Sc.bs (mName s).1,((mName s).2.code.length:Int)⟩] })=s6 at *
 have hend:∀ (sz:Int) (q:CS),Nx q (mClose (mLeave sz (mMust [59] (mMust [101,110,100] (mStmts N (mEnter sz pt (mMust [98,101,103,105,110] q))))))):=fun sz q=>
  ((((((nx_must _ q).tr (nx_enter sz pt _)).tr (nx_stmts N _)).tr (nx_must _ _)).tr (nx_must _ _)).tr (nx_leave sz _)).tr (nx_close _)
 cases pt with
 | true=>
  simp only [if_true];have d7:=(nx_owns pn pp 2 s6).g M d6;generalize mOwns pn pp 2 s6=s7 at *;split
  ·rename_i hv;exact (hend _ _).g M ((((nx_sees hv).tr (nx_vars _ _ _)).tr (nx_must _ _)).g M d7)
  ·exact (hend _ _).g M d7
 | false=>
  simp only [if_neg (show ¬ (false=true) by decide)];split
  ·rename_i hv;exact (hend _ _).g M ((((nx_sees hv).tr (nx_vars _ _ _)).tr (nx_must _ _)).g M d6)
  ·exact (hend _ _).g M d6
theorem nx_routine (N:Nat) (s:CS):Nx s (mRoutine N s):=⟨fun M h=>nb_routine N s M h⟩
theorem nx_decls (N:Nat):∀ (m:Nat) (s:CS),Nx s (mDecls N m s)
 | 0,s=>.rf
 | m+1,s=>by
  unfold mDecls;split
  ·split
   ·rename_i hs;exact ((nx_sees hs).tr (nx_variable _)).tr (nx_decls N m _)
   ·split
    ·rename_i hs;exact ((nx_sees hs).tr (nx_imported _)).tr (nx_decls N m _)
    ·split
     ·rename_i hs;exact ((nx_sees hs).tr (nx_routine N _)).tr (nx_decls N m _)
     ·exact .rf
  ·exact .rf
theorem nb_nam {M:Nat} {s:CS} {n:ByteArray} (h:Nb M s) (hn:n.size≤M):Nb M { s with name:=n }:=⟨hn,h.xp,h.im,h.tk⟩
theorem nx_program (N:Nat) (s:CS):Nx s (mProgram N s):=⟨fun M h=>by
 unfold mProgram;dsimp only
 have h1:Nb M (if mSees [112,114,111,103,114,97,109] s=true then mTail s else mMust [109,111,100,117,108,101] s):=by
  split
  ·rename_i hs;exact (nx_sees hs).g M h
  ·exact (nx_must _ _).g M h
 generalize (if mSees [112,114,111,103,114,97,109] s=true then mTail s else mMust [109,111,100,117,108,101] s)=s1 at *;have hn:(Sc.bs (mName s1).1).size≤M:=by rw [Sc.bs_size];exact name_le h1
 have h2:=((nx_must [59] _).tr (nx_open _)).g M (nb_nam ((nx_name s1).g M h1) hn);generalize mOpen (mMust [59] { (mName s1).2 with name:=Sc.bs (mName s1).1 })=s2 at *;cases mSees [112,114,111,103,114,97,109] s with
 | true=>
  simp only [if_true];have h3:=(((((((((nx_jump ⟨17,0,0,0,0⟩ s2).tr (nx_decls N (mJump ⟨17,0,0,0,0⟩ s2).toks.length _)).tr (nx_must [98,101,103,105,110] _)).tr (nx_land (s2.code.length:Int) _)).tr (nx_mark ⟨10,29,0,0,0⟩ 4 0 _)).tr (nx_stmts N _)).tr (nx_put ⟨20,0,0,0,0⟩ _)).tr (nx_must [101,110,100] _)).tr (nx_must [46] _)).g M h2;split
  ·exact (nx_stop _ _ _).g M h3
  ·exact h3
 | false=>
  simp only [if_neg (show ¬ (false=true) by decide)];have h3:=(((nx_decls N s2.toks.length s2).tr (nx_must [101,110,100] _)).tr (nx_must [46] _)).g M h2;split
  ·exact (nx_stop _ _ _).g M h3
  ·exact h3⟩
end Go.Proofs.YtkolmklfgbimoaaGreatDoor.Cm
namespace Go.Proofs.YtkolmklfgbimoaaGreatDoor
open Go Go.Sx Go.Sx.Chunk
def glbP (g:Nat) (cs:List Value):Piece:=⟨fun k=>k=g,fun w=>∃ t z,w.heap[g]? = some (.cells cs.toArray t z),fun w w' h ⟨t,z,hok⟩=>⟨t,z,(h g rfl).trans hok⟩⟩
def glb (g:Nat) (cs:List Value):Chunk:=.see (glbP g cs)
theorem glb_tab {P:Program} {w:World} {g:Nat} {k:IntKind} {zs:List Int} {name:String} (hg:P.globalNamed name=some g) (h:(glb g (zs.map fun z=>Value.int k z)).ok w):Lib.TabIs P w name k zs:=by
 obtain ⟨t,z,h⟩:=h;unfold Lib.TabIs World.var?;rw [hg];simp only [Option.bind_some];rw [h]
theorem fnc_same {P:Program} {f:FuncId} {args:List Value} {v:Value} {B:List Chunk} (hc:Called P f) (h:∀ w,Sep w (ownsW []) w B→Calls P f args.toArray w fun e w'=>e = .returned v∧w'=w) :
  FnC (α:=Unit) P f args [] B (fun _=>v) (fun _=>[]) (fun _=>True):=
 ⟨hc,fun w hw=>(h w hw.sep).mono fun e w' ⟨he,hw'⟩=>⟨(),he,by subst hw';exact ⟨Base.refl _ _,trivial⟩,trivial⟩⟩
theorem fnc_alloc {P:Program} {f:FuncId} {args:List Value} {e n:Nat} {xs:List Value} {B:List Chunk} (hc:Called P f) (hn:xs.length=n) (hm:n≤maxLen)
  (h:∀ w,Sep w (ownsW []) w B→Calls P f args.toArray w fun ed w'=>ed = .returned (.slice (some ⟨w.heap.size,0,none⟩) n n)∧w'=w.alloc (.cells xs.toArray e)) :
  FnC (α:=Option Addr) P f args [] B (fun a=>.slice a n n) (fun a=>[row a n e 1 n xs]) (fun _=>True):=
 ⟨hc,fun w hw=>(h w hw.sep).mono fun ed w' ⟨he,hw'⟩=>⟨some ⟨w.heap.size,0,none⟩,he,by
  subst hw';refine ⟨⟨rfl,rfl,rfl,by simp,fun k hk _=>heap_alloc_old w _ hk⟩,⟨?_,?_,fun d hd=>by (cases hd),trivial⟩⟩
  ·exact ⟨by omega,.inr ⟨w.heap.size,n,xs.toArray,rfl,Nat.zero_le _,heap_alloc_new w _,Nat.le_refl _,hm,by simp [hn],by simp [← hn]⟩⟩
  ·intro k hk;have hk':(Value.slice (some ⟨w.heap.size,0,none⟩) n n).ownBlock=some k:=hk;simp only [Value.ownBlock,Option.some.injEq] at hk';subst hk';exact ⟨by simp,fun _=>.inr (Nat.le_refl _)⟩,trivial⟩⟩
end Go.Proofs.YtkolmklfgbimoaaGreatDoor
namespace Go.Proofs
open Go.Shelf
section
set_option maxRecDepth 512
open Go.RowKit in
open Go.RowKit in
open Go.RowKit Go.Lib in
def Tryz.lays189_ren:Go.Shelf.Ren:=⟨fun | 189=>189 | 125=>228 | 257=>227 | 128=>250 | 129=>251 | 294=>241 | 295=>242 | 296=>243 | 297=>244 | 298=>245 | 299=>246 | 216=>247 | 300=>248 | 301=>249 | 328=>258 | 329=>259 | 330=>260 | 331=>261 | 332=>262 | 215=>263 | 343=>270 | n=>n,fun | 28=>41 | 3=>3 | 46=>248 | 0=>0 | 51=>285 | 53=>287 | 4=>4 | 183=>279 | 182=>278 | 131=>102 | 5=>5 | 9=>9 | 218=>298 | 222=>302 | 228=>315 | 229=>119 | n=>n,fun | n=>n⟩
theorem Tryz.lays189:Go.Proofs.Lays.n189 Tryz.prog Tryz.lays189_ren:={
 mixed:=by kernel_rfl
 f125:=Tryz.func228.trans (congrArg some (by kernel_rfl))
 f128:=Tryz.func250.trans (congrArg some (by kernel_rfl))
 f129:=Tryz.func251.trans (congrArg some (by kernel_rfl))
 f189:=Tryz.func189.trans (congrArg some (by kernel_rfl))
 f215:=Tryz.func263.trans (congrArg some (by kernel_rfl))
 f216:=Tryz.func247.trans (congrArg some (by kernel_rfl))
 f257:=Tryz.func227.trans (congrArg some (by kernel_rfl))
 f294:=Tryz.func241.trans (congrArg some (by kernel_rfl))
 f295:=Tryz.func242.trans (congrArg some (by kernel_rfl))
 f296:=Tryz.func243.trans (congrArg some (by kernel_rfl))
 f297:=Tryz.func244.trans (congrArg some (by kernel_rfl))
 f298:=Tryz.func245.trans (congrArg some (by kernel_rfl))
 f299:=Tryz.func246.trans (congrArg some (by kernel_rfl))
 f300:=Tryz.func248.trans (congrArg some (by kernel_rfl))
 f301:=Tryz.func249.trans (congrArg some (by kernel_rfl))
 f328:=Tryz.func258.trans (congrArg some (by kernel_rfl))
 f329:=Tryz.func259.trans (congrArg some (by kernel_rfl))
 f330:=Tryz.func260.trans (congrArg some (by kernel_rfl))
 f331:=Tryz.func261.trans (congrArg some (by kernel_rfl))
 f332:=Tryz.func262.trans (congrArg some (by kernel_rfl))
 f343:=Tryz.func270.trans (congrArg some (by kernel_rfl))
 t0:=Tryz.underlying0
 a0:=Tryz.isAgg0
 z0:=Tryz.sizeOf0
 v0:=Tryz.zeroValue0
 t3:=Tryz.underlying3
 a3:=Tryz.isAgg3
 z3:=Tryz.sizeOf3
 v3:=Tryz.zeroValue3
 t4:=Tryz.underlying4
 a4:=Tryz.isAgg4
 z4:=Tryz.sizeOf4
 v4:=Tryz.zeroValue4
 t5:=Tryz.underlying5
 a5:=Tryz.isAgg5
 z5:=Tryz.sizeOf5
 v5:=Tryz.zeroValue5
 t9:=Tryz.underlying9
 a9:=Tryz.isAgg9
 z9:=Tryz.sizeOf9
 v9:=Tryz.zeroValue9
 t28:=Tryz.underlying41
 a28:=Tryz.isAgg41
 z28:=Tryz.sizeOf41
 v28:=Tryz.zeroValue41
 t46:=Tryz.underlying248
 a46:=Tryz.isAgg248
 z46:=Tryz.sizeOf248
 v46:=Tryz.zeroValue248
 t51:=Tryz.underlying285
 a51:=Tryz.isAgg285
 z51:=Tryz.sizeOf285
 v51:=Tryz.zeroValue285
 t53:=Tryz.underlying287
 a53:=Tryz.isAgg287
 z53:=Tryz.sizeOf287
 v53:=Tryz.zeroValue287
 t131:=Tryz.underlying102
 a131:=Tryz.isAgg102
 z131:=Tryz.sizeOf102
 v131:=Tryz.zeroValue102
 t182:=Tryz.underlying278
 a182:=Tryz.isAgg278
 z182:=Tryz.sizeOf278
 v182:=Tryz.zeroValue278
 t183:=Tryz.underlying279
 a183:=Tryz.isAgg279
 z183:=Tryz.sizeOf279
 v183:=Tryz.zeroValue279
 t218:=Tryz.underlying298
 a218:=Tryz.isAgg298
 z218:=Tryz.sizeOf298
 v218:=Tryz.zeroValue298
 t222:=Tryz.underlying302
 a222:=Tryz.isAgg302
 z222:=Tryz.sizeOf302
 v222:=Tryz.zeroValue302
 t228:=Tryz.underlying315
 a228:=Tryz.isAgg315
 z228:=Tryz.sizeOf315
 v228:=Tryz.zeroValue315
 t229:=Tryz.underlying119
 a229:=Tryz.isAgg119
 z229:=Tryz.sizeOf119
 v229:=Tryz.zeroValue119 }
open Go.Sort Go.RowKit in
theorem Tryz.slices_Sort_int (blk off cap:Nat) (zs:List Int) (w:World) (hH:Holds (Value.int .i64) w blk off zs.toArray) (hblk:blk<w.heap.size) (hsz:zs.length<4611686018427387904) :
  Calls Tryz.prog 189 #[.slice (some ⟨blk,off,none⟩) zs.length cap] w fun e w'=>
   e = .returned (.tuple #[])∧∃ n os,w'=grow (putRow (Value.int .i64) (Sort.ahead w n) blk off (zs.mergeSort fun x y=>decide (x≤y)).toArray) os:=Any.slices_Sort_int Tryz.lays189 blk off cap zs w hH hblk hsz
open Go.RowKit Go.Lib in
open Go.RowKit Go.Lib in
def Tryz.lays157_ren:Go.Shelf.Ren:=⟨fun | 157=>212 | 229=>234 | 199=>235 | 261=>255 | 311=>265 | 312=>266 | n=>n,fun | 9=>9 | 31=>22 | 3=>3 | 5=>5 | 4=>4 | 119=>271 | 0=>0 | 40=>200 | 152=>292 | 21=>21 | 154=>294 | 51=>285 | 141=>296 | 196=>307 | 193=>304 | 198=>310 | 49=>308 | 194=>305 | 201=>313 | 226=>317 | 46=>248 | 227=>318 | n=>n,fun | 0=>1 | 6=>2 | n=>n⟩
theorem Tryz.lays157:Go.Proofs.Lays.n157 Tryz.prog Tryz.lays157_ren:={
 mixed:=by kernel_rfl
 f157:=Tryz.func212.trans (congrArg some (by kernel_rfl))
 f199:=Tryz.func235.trans (congrArg some (by kernel_rfl))
 f229:=Tryz.func234.trans (congrArg some (by kernel_rfl))
 f261:=Tryz.func255.trans (congrArg some (by kernel_rfl))
 f311:=Tryz.func265.trans (congrArg some (by kernel_rfl))
 f312:=Tryz.func266.trans (congrArg some (by kernel_rfl))
 t0:=Tryz.underlying0
 a0:=Tryz.isAgg0
 z0:=Tryz.sizeOf0
 v0:=Tryz.zeroValue0
 t3:=Tryz.underlying3
 a3:=Tryz.isAgg3
 z3:=Tryz.sizeOf3
 v3:=Tryz.zeroValue3
 t4:=Tryz.underlying4
 a4:=Tryz.isAgg4
 z4:=Tryz.sizeOf4
 v4:=Tryz.zeroValue4
 t5:=Tryz.underlying5
 a5:=Tryz.isAgg5
 z5:=Tryz.sizeOf5
 v5:=Tryz.zeroValue5
 t9:=Tryz.underlying9
 a9:=Tryz.isAgg9
 z9:=Tryz.sizeOf9
 v9:=Tryz.zeroValue9
 t21:=Tryz.underlying21
 a21:=Tryz.isAgg21
 z21:=Tryz.sizeOf21
 v21:=Tryz.zeroValue21
 t31:=Tryz.underlying22
 a31:=Tryz.isAgg22
 z31:=Tryz.sizeOf22
 v31:=Tryz.zeroValue22
 t40:=Tryz.underlying200
 a40:=Tryz.isAgg200
 z40:=Tryz.sizeOf200
 v40:=Tryz.zeroValue200
 t46:=Tryz.underlying248
 a46:=Tryz.isAgg248
 z46:=Tryz.sizeOf248
 v46:=Tryz.zeroValue248
 t49:=Tryz.underlying308
 a49:=Tryz.isAgg308
 z49:=Tryz.sizeOf308
 v49:=Tryz.zeroValue308
 t51:=Tryz.underlying285
 a51:=Tryz.isAgg285
 z51:=Tryz.sizeOf285
 v51:=Tryz.zeroValue285
 t119:=Tryz.underlying271
 a119:=Tryz.isAgg271
 z119:=Tryz.sizeOf271
 t141:=Tryz.underlying296
 a141:=Tryz.isAgg296
 z141:=Tryz.sizeOf296
 v141:=Tryz.zeroValue296
 t152:=Tryz.underlying292
 a152:=Tryz.isAgg292
 z152:=Tryz.sizeOf292
 v152:=Tryz.zeroValue292
 t154:=Tryz.underlying294
 a154:=Tryz.isAgg294
 z154:=Tryz.sizeOf294
 v154:=Tryz.zeroValue294
 t193:=Tryz.underlying304
 a193:=Tryz.isAgg304
 z193:=Tryz.sizeOf304
 v193:=Tryz.zeroValue304
 t194:=Tryz.underlying305
 a194:=Tryz.isAgg305
 z194:=Tryz.sizeOf305
 v194:=Tryz.zeroValue305
 t196:=Tryz.underlying307
 a196:=Tryz.isAgg307
 z196:=Tryz.sizeOf307
 v196:=Tryz.zeroValue307
 t198:=Tryz.underlying310
 a198:=Tryz.isAgg310
 z198:=Tryz.sizeOf310
 v198:=Tryz.zeroValue310
 t201:=Tryz.underlying313
 a201:=Tryz.isAgg313
 z201:=Tryz.sizeOf313
 v201:=Tryz.zeroValue313
 t226:=Tryz.underlying317
 a226:=Tryz.isAgg317
 z226:=Tryz.sizeOf317
 v226:=Tryz.zeroValue317
 t227:=Tryz.underlying318
 a227:=Tryz.isAgg318
 z227:=Tryz.sizeOf318
 v227:=Tryz.zeroValue318
 g0:=by kernel_rfl
 g6:=by kernel_rfl }
open Go.RowKit Go.Lib in
theorem Tryz.strings_Fields (s:ByteArray) (w:World) (hs:s.size<4294967281) (hascii:∀ (j:Nat) b,s.data.toList[j]? = some b→b.toNat<128) (htab:Lib.TabIs Tryz.prog w "strings.asciiSpace" .u8 Lib.asciiSpaceTab) :
  Calls Tryz.prog 212 #[.string s] w fun e w'=>
   e = .returned (.slice (some ⟨w.heap.size,0,none⟩) (Lib.fields s.data.toList).length (Lib.fields s.data.toList).length)∧w'=w.alloc (.cells ((Lib.fields s.data.toList).map fun l=>Value.string ⟨l.toArray⟩).toArray 9):=Any.strings_Fields Tryz.lays157 (by kernel_rfl) (by kernel_rfl) s w hs hascii htab
open Go.RowKit Go.Lib in
open Go.RowKit Go.Lib in
def Tryz.lays212_ren:Go.Shelf.Ren:=⟨fun | 212=>229 | 263=>252 | 264=>253 | n=>n,fun | 46=>248 | 51=>285 | 146=>288 | 53=>287 | 148=>290 | n=>n,fun | n=>n⟩
theorem Tryz.lays212:Go.Proofs.Lays.n212 Tryz.prog Tryz.lays212_ren:={
 mixed:=by kernel_rfl
 f212:=Tryz.func229.trans (congrArg some (by kernel_rfl))
 f263:=Tryz.func252.trans (congrArg some (by kernel_rfl))
 f264:=Tryz.func253.trans (congrArg some (by kernel_rfl))
 t46:=Tryz.underlying248
 a46:=Tryz.isAgg248
 z46:=Tryz.sizeOf248
 v46:=Tryz.zeroValue248
 t51:=Tryz.underlying285
 a51:=Tryz.isAgg285
 z51:=Tryz.sizeOf285
 v51:=Tryz.zeroValue285
 t53:=Tryz.underlying287
 a53:=Tryz.isAgg287
 z53:=Tryz.sizeOf287
 v53:=Tryz.zeroValue287
 t146:=Tryz.underlying288
 a146:=Tryz.isAgg288
 z146:=Tryz.sizeOf288
 v146:=Tryz.zeroValue288
 t148:=Tryz.underlying290
 a148:=Tryz.isAgg290
 z148:=Tryz.sizeOf290
 v148:=Tryz.zeroValue290 }
open Go.RowKit Go.Lib in
theorem Tryz.bits_Mul (x y:Nat) (hx:x<18446744073709551616) (hy:y<18446744073709551616) (w:World) :
  Calls Tryz.prog 229 #[.int .u64 x,.int .u64 y] w fun e w'=>e = .returned (.tuple #[.int .u64 ((x*y / 18446744073709551616:Nat):Int),.int .u64 ((x*y % 18446744073709551616:Nat):Int)])∧w'=w:=Any.bits_Mul Tryz.lays212 x y hx hy w
open Go.RowKit Go.Lib in
open Go.RowKit Go.Lib in
open Go.RowKit Go.Lib in
open Go.RowKit Go.Lib in
open Go.RowKit Go.Lib in
open Go.RowKit Go.Lib in
open Go.Lib in
open Go.Lib in
open Go.Lib in
open Go.Lib in
open Go.Lib in
open Go.Lib in
def Tryz.lays110_ren:Go.Shelf.Ren:=⟨fun | 110=>165 | 109=>211 | n=>n,fun | 31=>22 | 9=>9 | 4=>4 | 3=>3 | 0=>0 | n=>n,fun | n=>n⟩
theorem Tryz.lays110:Go.Proofs.Lays.n110 Tryz.prog Tryz.lays110_ren:={
 mixed:=by kernel_rfl
 f109:=Tryz.func211.trans (congrArg some (by kernel_rfl))
 f110:=Tryz.func165.trans (congrArg some (by kernel_rfl))
 t0:=Tryz.underlying0
 a0:=Tryz.isAgg0
 z0:=Tryz.sizeOf0
 v0:=Tryz.zeroValue0
 t3:=Tryz.underlying3
 a3:=Tryz.isAgg3
 z3:=Tryz.sizeOf3
 v3:=Tryz.zeroValue3
 t4:=Tryz.underlying4
 a4:=Tryz.isAgg4
 z4:=Tryz.sizeOf4
 v4:=Tryz.zeroValue4
 t9:=Tryz.underlying9
 a9:=Tryz.isAgg9
 z9:=Tryz.sizeOf9
 v9:=Tryz.zeroValue9
 t31:=Tryz.underlying22
 a31:=Tryz.isAgg22
 z31:=Tryz.sizeOf22
 v31:=Tryz.zeroValue22 }
open Go.Lib in
theorem Tryz.slices_Contains_string (b off n c:Nat) (zs:List ByteArray) (x:ByteArray) (w:World) (hz:n≤zs.length) (hbig:n≤9223372036854775807) (hc:∀ j,j<zs.length→w.cell? ⟨b,off+j,none⟩=some (.string (zs.getD j ByteArray.empty))) :
  Calls Tryz.prog 165 #[.slice (some ⟨b,off,none⟩) n c,.string x] w fun e w'=>e = .returned (.bool (Lib.containsS (zs.take n) x))∧w'=w:=Any.slices_Contains_string Tryz.lays110 b off n c zs x w hz hbig hc
open Go.Lib in
open Go.RowKit Go.Lib in
open Go.RowKit Go.Lib in
open Go.RowKit Go.Lib in
def Tryz.laysNm220_ren:Go.Shelf.Ren:=⟨fun | 20=>203 | n=>n,fun | 22=>41 | 3=>3 | 4=>4 | 0=>0 | n=>n,fun | n=>n⟩
theorem Tryz.laysNm220:Go.Proofs.Lays2.n20 Tryz.prog Tryz.laysNm220_ren:={
 mixed:=by kernel_rfl
 f20:=Tryz.func203.trans (congrArg some (by kernel_rfl))
 t0:=Tryz.underlying0
 a0:=Tryz.isAgg0
 z0:=Tryz.sizeOf0
 v0:=Tryz.zeroValue0
 t3:=Tryz.underlying3
 a3:=Tryz.isAgg3
 z3:=Tryz.sizeOf3
 v3:=Tryz.zeroValue3
 t4:=Tryz.underlying4
 a4:=Tryz.isAgg4
 z4:=Tryz.sizeOf4
 v4:=Tryz.zeroValue4
 t22:=Tryz.underlying41
 a22:=Tryz.isAgg41
 z22:=Tryz.sizeOf41
 v22:=Tryz.zeroValue41
 i3:=by kernel_rfl }
open Go.RowKit Go.Lib Go.Sort in
open Go.RowKit Go.Lib Go.Sort in
theorem Tryz.slices_Compact_int (blk off cap:Nat) (zs:List Int) (w:World) (hH:Holds (Value.int .i64) w blk off zs.toArray) (hsz:zs.length≤9223372036854775807) (hcap:zs.length≤cap) :
  Calls Tryz.prog 203 #[.slice (some ⟨blk,off,none⟩) zs.length cap] w fun e w'=>e = .returned (.slice (some ⟨blk,off,none⟩) (Lib.compact zs).length cap)∧∃ q,w'=putRow (Value.int .i64) (Sort.ahead w q) blk off (Lib.compact zs++List.replicate (zs.length-(Lib.compact zs).length) 0).toArray:=Any.slices_Compact_int Tryz.laysNm220 blk off cap zs w hH hsz hcap
open Go.RowKit Go.Lib Go.Sort in
theorem Tryz.slices_Compact_int_empty (a:Option Addr) (cap:Nat) (w:World) :
  Calls Tryz.prog 203 #[.slice a 0 cap] w fun e w'=>e = .returned (.slice a 0 cap)∧w'=w:=Any.slices_Compact_int_empty Tryz.laysNm220 a cap w
open Go.RowKit Go.Lib Go.Sort in
open Go.RowKit Go.Sort in
theorem Tryz.slices_Sort_int_none (p:Option Addr) (cap:Nat) (w:World) :
  Calls Tryz.prog 189 #[.slice p 0 cap] w fun e w'=>e = .returned (.tuple #[])∧w'=w:=Any.slices_Sort_int_none Tryz.lays189 p cap w
end
end Go.Proofs
namespace Go.Proofs.YtkolmklfgbimoaaGreatDoor.Cm
open Go Go.Sx Go.Sx.Chunk Go.RowKit
def spaceV:Chunk:=glb 1 (Lib.asciiSpaceTab.map fun z=>Value.int .u8 z)
theorem fieldsC (s:ByteArray) (hs:s.size<4294967281) (hascii:∀ (j:Nat) b,s.data.toList[j]? = some b→b.toNat<128) (hn:(Lib.fields s.data.toList).length≤maxLen) :
  FnC Tryz.prog 212 [.string s] [] [spaceV] (fun a:Option Addr=>.slice a (Lib.fields s.data.toList).length (Lib.fields s.data.toList).length) (fun a=>[row a (Lib.fields s.data.toList).length 9 1 (Lib.fields s.data.toList).length ((Lib.fields s.data.toList).map fun l=>Value.string ⟨l.toArray⟩)]) (fun _=>True):=
 fnc_alloc ⟨_,_,Tryz.func212,rfl,by kernel_rfl⟩ (by simp) hn fun w hw=>_root_.Go.Proofs.Tryz.strings_Fields s w hs hascii (glb_tab (by kernel_rfl) hw.1)
theorem rng_cell {w:World} {b off:Nat} {cs:List Value} (h:(rng (some ⟨b,off,none⟩) cs).ok w) {j:Nat} {v:Value} (hj:cs[j]? = some v):w.cell? ⟨b,off+j,none⟩=some v:=by
 obtain ⟨a,ha,hc⟩:=h j v hj;cases ha;have e:(⟨b,off,none⟩:Addr).add j=⟨b,off+j,none⟩:=by unfold Addr.add;split <;> simp_all
 rw [e] at hc;exact hc
theorem containsSC (b off c:Nat) (zs:List ByteArray) (x:ByteArray) (hbig:zs.length≤9223372036854775807):FnC (α:=Unit) Tryz.prog 165 [.slice (some ⟨b,off,none⟩) zs.length c,.string x] [] [rng (some ⟨b,off,none⟩) (zs.map Value.string)] (fun _=>.bool (Lib.containsS zs x)) (fun _=>[]) (fun _=>True):=
 fnc_same ⟨_,_,Tryz.func165,rfl,by kernel_rfl⟩ fun w hw=>by
  have:=_root_.Go.Proofs.Tryz.slices_Contains_string b off zs.length c zs x w (Nat.le_refl _) hbig (fun j hj=>rng_cell hw.1 (by rw [List.getElem?_map,List.getElem?_eq_getElem hj];simp [List.getD,List.getElem?_eq_getElem hj]));rw [List.take_length] at this;exact this
def wdT:ByteArray:=⟨#[112,114,111,103,114,97,109,32,109,111,100,117,108,101,32,118,97,114,32,101,120,116,101,114,110,97,108,32,112,114,111,99,101,100,117,114,101,32,98,101,103,105,110,32,101,110,100,32,105,102,32,116,104,101,110,32,101,108,115,101,32,119,104,105,108,101,32,100,111,32,119,114,105,116,101,32,114,101,97,100,32,110,111,116,32,97,110,100,32,111,114,32,100,105,118,32,109,111,100]⟩
theorem wd_fields:Lib.fields wdT.data.toList=wordsL:=by decide +kernel
theorem wd_ascii:∀ (j:Nat) b,wdT.data.toList[j]? = some b→b.toNat<128:=by
 intro j b h;have h2:wdT.data.toList.all (fun b=>decide (b.toNat<128))=true:=by decide +kernel
 have h3:=List.all_eq_true.1 h2 b (List.mem_of_getElem? h)
 simpa using h3
def wdB:List ByteArray:=wordsL.map fun l=>⟨l.toArray⟩
theorem wd_is (x:List UInt8):Lib.containsS wdB (Sc.bs x)=isWord x:=by
 unfold Lib.containsS;rw [Bool.eq_iff_iff,decide_eq_true_eq,Lib.idxOfS_nonneg_iff];unfold isWord wdB;rw [List.contains_iff_mem,List.mem_map];constructor
 ·rintro ⟨l,hl,he⟩;have:Sc.bs l=Sc.bs x:=he;rw [Sc.bs_inj] at this;rw [← this];exact hl
 ·intro h;exact ⟨x,h,rfl⟩
theorem wordsC:FnC Tryz.prog 166 [] [] [spaceV] (fun a:Option Addr=>.slice a 19 19) (fun a=>[row a 19 9 1 19 (wdB.map Value.string)]) (fun _=>True):=by
 have h:=fieldsC wdT (by decide +kernel) wd_ascii (by rw [wd_fields];decide);rw [wd_fields] at h;rw [show wordsL.length=19 from rfl,show (wordsL.map fun l=>Value.string ⟨l.toArray⟩)=wdB.map Value.string by unfold wdB;rw [List.map_map];rfl] at h;refine fn_intro Tryz.func166 Tryz.ntmps166 rfl rfl rfl (fun w0=>?_);refine rrs ?_;refine cl (h) ?_;intro a _;refine rrs ?_;exact en a trivial
end Go.Proofs.YtkolmklfgbimoaaGreatDoor.Cm
namespace Go.Proofs.YtkolmklfgbimoaaGreatDoor.Cm
open Go Go.Sx Go.Sx.Chunk
section
structure Ad where
 mk ::
 (ta:Option Addr) (tc:Nat) (ca:Option Addr) (cc:Nat) (pa:Option Addr) (pc:Nat) (na:Option Addr) (nc:Nat) (ba:Option Addr) (bc:Nat) (ea:Option Addr) (ec:Nat) (ia:Option Addr) (ic:Nat)
def thV (t:Th):List Value:=[.int .i64 t.kind,.int .i64 t.pl,.int .i64 t.size,.bool t.takes]
def thG (t:Th):Value:=.agg #[.int .i64 t.kind,.int .i64 t.pl,.int .i64 t.size,.bool t.takes]
def enV (e:ByteArray×Th):List Value:=[.string e.1,.int .i64 e.2.kind,.int .i64 e.2.pl,.int .i64 e.2.size,.bool e.2.takes]
def enC (l:List (ByteArray×Th)):List Value:=l.flatMap enV
def natC (l:List Nat):List Value:=l.map fun (n:Nat)=>Value.int .i64 (n:Int)
def csC (s:CS) (x:Ad):List Value:=[.slice x.ta s.toks.length x.tc,.int .i64 s.en,.slice x.ca s.code.length x.cc,.slice x.pa s.pats.length x.pc,.int .i64 (s.taken:Int),.slice x.na s.ents.length x.nc,.slice x.ba s.begs.length x.bc,.string s.name,.slice none 0 0,.int .i64 s.data,.slice x.ea s.exps.length x.ec,.slice x.ia s.imps.length x.ic,.slice none 0 0,.int .i64 s.e,.int .i64 s.bad,.int .i64 (s.fac:Int),.int .i64 (s.nest:Int)]
def cmH (c:Nat) (s:CS) (x:Ad):List Chunk:=[blk c (csC s x) 80,row x.ca x.cc 105 5 s.code.length (insC s.code),row x.pa x.pc 94 3 s.pats.length (paC s.pats),row x.na x.nc 274 5 s.ents.length (enC s.ents),row x.ba x.bc 3 1 s.begs.length (natC s.begs),row x.ea x.ec 154 2 s.exps.length (syC s.exps),row x.ia x.ic 9 1 s.imps.length (strC s.imps)]
def cP (c:Nat):Value:=.pointer (some ⟨c,0,none⟩)
def tkB (TA:Addr) (L:List (Sc.Tk×Nat)):Chunk:=rng (some TA) (Sc.tokC L)
structure OkX (TA:Addr) (L:List (Sc.Tk×Nat)) (s:CS) (x:Ad):Prop where
 tok:s.toks≠[]→∃ k,L.drop k=s.toks∧x.ta=some (TA.add (k*4))
 cap:s.toks.length≤x.tc
theorem OkX.same {TA:Addr} {L:List (Sc.Tk×Nat)} {s s':CS} {x y:Ad} (h:OkX TA L s x) (ht:s'.toks=s.toks) (ha:y.ta=x.ta) (hc:y.tc=x.tc):OkX TA L s' y:=
 ⟨fun hn=>by rw [ht] at hn ⊢;rw [ha];exact h.tok hn,by rw [ht,hc];exact h.cap⟩
theorem OkX.none {TA:Addr} {L:List (Sc.Tk×Nat)} {s:CS} {x:Ad} (h:s.toks=[]):OkX TA L s x:=⟨fun hn=>absurd h hn,by rw [h];exact Nat.zero_le _⟩
theorem tokC_cons (t:Sc.Tk×Nat) (l:List (Sc.Tk×Nat)):Sc.tokC (t::l) = .int .i64 t.1.kind :: .string (Sc.bs t.1.text) :: .int .i64 t.1.num :: .int .i64 (t.2:Int)::Sc.tokC l:=rfl
theorem tokC_drop:∀ (l:List (Sc.Tk×Nat)) (k:Nat),(Sc.tokC l).drop (k*4)=Sc.tokC (l.drop k)
 | l,0=>by simp
 | [],k+1=>by simp [Sc.tokC]
 | t::l,k+1=>by
  rw [tokC_cons,show (k+1)*4=k*4+1+1+1+1 by omega];simp only [List.drop_succ_cons];exact tokC_drop l k
theorem tk_look {w0 w:World} {M:Nat→Prop} {H:List Chunk} {TA:Addr} {L:List (Sc.Tk×Nat)} {s:CS} {x:Ad} {a:Addr} {k:Nat} (hw:St w0 M w H) (hp:nthC H k=some (tkB TA L)) (hx:OkX TA L s x) (hn:s.toks≠[]) (ha:x.ta=some a):St w0 M w (rng (some a) (Sc.tokC s.toks)::H):=by
 obtain ⟨j,hj,hta⟩:=hx.tok hn;rw [ha] at hta;cases hta;refine hw.look rfl ?_;have h1:Prov [tkB TA L] (rng (some (TA.add (j*4))) ((Sc.tokC L).drop (j*4))):=rng_drop _;rw [tokC_drop,hj] at h1;refine h1.one (prov_mem ?_);unfold ros;rw [List.mem_filter];exact ⟨nthC_mem hp,rfl⟩
theorem OkX.some {TA:Addr} {L:List (Sc.Tk×Nat)} {s:CS} {x:Ad} (h:OkX TA L s x) (hn:s.toks≠[]):∃ a,x.ta=Option.some a:=by
 obtain ⟨k,_,h2⟩:=h.tok hn;exact ⟨_,h2⟩
variable {TA:Addr} {L:List (Sc.Tk×Nat)}
theorem stopC (c:Nat) (s:CS) (x:Ad) (e pl:Int):FnC Tryz.prog 31 [cP c,.int .i64 e,.int .i64 pl] (cmH c s x) [] (fun _=>.tuple #[]) (fun y:Ad=>cmH c (mStop e pl s) y) (fun y=>OkX TA L (mStop e pl s) y):=by
 unfold cmH csC cP;refine fn_intro Tryz.func31 Tryz.ntmps31 rfl rfl rfl (fun w0=>?_);try simp only [Sx.ap1,Sx.ap2,Sx.ap3]
 by_cases h:s.e=0
 ·skip
  refine rr ?_;exact en { x with ta:=none,tc:=0 } (OkX.none rfl) (hp:=by unfold mStop;simp only [if_pos h];(repeat (first | exact Has.nil | (apply Has.cons;focus ((repeat (first | exact pick_here | apply pick_there));done)) | apply Has.nrow | apply Has.gen0)))
 ·skip
  refine rr ?_;exact en { x with ta:=none,tc:=0 } (OkX.none rfl) (hp:=by unfold mStop;simp only [if_neg h];(repeat (first | exact Has.nil | (apply Has.cons;focus ((repeat (first | exact pick_here | apply pick_there));done)) | apply Has.nrow | apply Has.gen0)))
theorem hereC (c:Nat) (s:CS) (x:Ad) (hx:OkX TA L s x):FnC Tryz.prog 70 [cP c] (cmH c s x) [tkB TA L] (fun _=>.int .i64 (mHere s)) (fun y:Ad=>cmH c s y) (fun y=>y=x):=by
 cases ht:s.toks with
 | nil=>
  unfold cmH csC cP mHere;rw [ht];refine fn_intro Tryz.func70 Tryz.ntmps70 rfl rfl rfl (fun w0=>?_);refine rrs ?_;exact en x rfl
 | cons t r=>
  obtain ⟨a,ha⟩:=hx.some (by rw [ht];simp);obtain ⟨ta,tc,ca,cc,pa,pc,na,nc,ba,bc,ea,ec,ia,ic⟩:=x;cases (show ta=some a from ha);unfold cmH csC cP mHere;refine fn_intro Tryz.func70 Tryz.ntmps70 rfl rfl rfl (fun w0=>?_);try simp only [Sx.ap1,Sx.ap2,Sx.ap3]
  refine w_turn (fun w hw=>tk_look (k:=7) hw rfl hx (by rw [ht];simp) ha) ?_;rw [ht,tokC_cons];have hl:(t::r).length=r.length+1:=rfl;refine rr ?_;exact en ⟨some a,tc,ca,cc,pa,pc,na,nc,ba,bc,ea,ec,ia,ic⟩ rfl
theorem seesC (c:Nat) (s:CS) (x:Ad) (w:List UInt8) (hx:OkX TA L s x):FnC Tryz.prog 122 [cP c,.string (Sc.bs w)] (cmH c s x) [tkB TA L,spaceV] (fun _=>.bool (mSees w s)) (fun y:Ad=>cmH c s y) (fun y=>y=x):=by
 cases ht:s.toks with
 | nil=>
  unfold cmH csC cP mSees;rw [ht];refine fn_intro Tryz.func122 Tryz.ntmps122 rfl rfl rfl (fun w0=>?_);refine rrs ?_;exact en x rfl
 | cons t r=>
  obtain ⟨a,ha⟩:=hx.some (by rw [ht];simp);obtain ⟨ta,tc,ca,cc,pa,pc,na,nc,ba,bc,ea,ec,ia,ic⟩:=x;cases (show ta=some a from ha);have hwd:=wd_is w;unfold cmH csC cP mSees;by_cases hw:t.1.text=w
  ·skip
   refine fn_intro Tryz.func122 Tryz.ntmps122 rfl rfl rfl (fun w0=>?_);try simp only [Sx.ap1,Sx.ap2,Sx.ap3]
   refine w_turn (fun w hw=>tk_look (k:=7) hw rfl hx (by rw [ht];simp) ha) ?_;rw [ht,tokC_cons,hw];have hl:(t::r).length=r.length+1:=rfl;dsimp only;rw [hw];by_cases h3:t.1.kind=3
   ·skip
    refine rr ?_;intro b5 _;refine rr ?_;exact en ⟨some a,tc,ca,cc,pa,pc,na,nc,ba,bc,ea,ec,ia,ic⟩ rfl (hv:=by simp [packR,h3])
   ·by_cases h1:t.1.kind=1
    ·skip
     refine rr ?_;intro b5 _;refine rr ?_;refine cl (wordsC) ?_;intro aa _;try simp only [Sx.ap1,Sx.ap2,Sx.ap3]
     refine w_use (fun w hw=>(hw.pick 0 rfl).row_some (by first | omega | decide | (simp;done) | (simp <;> omega))) ?_;rintro ⟨g1,rfl⟩;have hcs:=containsSC g1 0 19 wdB (Sc.bs w) (by decide);rw [hwd,show wdB.length=19 from rfl] at hcs;refine rr ?_;refine cl (hcs) ?_;intro _ _;refine rrs ?_;exact en ⟨some a,tc,ca,cc,pa,pc,na,nc,ba,bc,ea,ec,ia,ic⟩ rfl (hv:=by simp [packR,h1])
    ·skip
     refine rr ?_;intro b5 _;refine rr ?_;exact en ⟨some a,tc,ca,cc,pa,pc,na,nc,ba,bc,ea,ec,ia,ic⟩ rfl (hv:=by simp [packR,h1,h3])
  ·have hne:decide (Sc.bs t.1.text=Sc.bs w)=false:=by rw [decide_eq_false_iff_not,Sc.bs_inj];exact hw
   refine fn_intro Tryz.func122 Tryz.ntmps122 rfl rfl rfl (fun w0=>?_);try simp only [Sx.ap1,Sx.ap2,Sx.ap3]
   refine w_turn (fun w hw=>tk_look (k:=7) hw rfl hx (by rw [ht];simp) ha) ?_;rw [ht,tokC_cons];have hl:(t::r).length=r.length+1:=rfl;dsimp only;refine rr ?_;intro b5 _;refine rr ?_;exact en ⟨some a,tc,ca,cc,pa,pc,na,nc,ba,bc,ea,ec,ia,ic⟩ rfl (hv:=by simp [packR,hw,Sc.bs_inj])
theorem OkX.cons {TA:Addr} {L:List (Sc.Tk×Nat)} {s:CS} {x:Ad} (h:OkX TA L s x) {t:Sc.Tk×Nat} {r:List (Sc.Tk×Nat)} (ht:s.toks=t::r):∃ (k:Nat),L.drop k=t::r∧x.ta=Option.some (TA.add (k*4))∧r.length+1≤x.tc:=by
 obtain ⟨k,h1,h2⟩:=h.tok (by rw [ht];simp);have h3:=h.cap;rw [ht] at h1 h3;exact ⟨k,h1,h2,h3⟩
def Ad.tl (x:Ad):Ad:={ x with ta:=if x.tc=1 then x.ta else x.ta.map fun a=>a.add 4,tc:=x.tc-1 }
theorem OkX.tl {TA:Addr} {L:List (Sc.Tk×Nat)} {s s':CS} {x:Ad} (h:OkX TA L s x) {t:Sc.Tk×Nat} {r:List (Sc.Tk×Nat)} (ht:s.toks=t::r) (hs:s'.toks=r):OkX TA L s' x.tl:=by
 obtain ⟨k,h1,h2,h3⟩:=h.cons ht;refine ⟨fun hn=>⟨k+1,?_,?_⟩,?_⟩
 ·rw [hs,show L.drop (k+1)=(L.drop k).drop 1 by rw [List.drop_drop],h1];rfl
 ·unfold Ad.tl;have:r.length≠0:=fun h=>hn (by rw [hs];exact List.length_eq_zero_iff.mp h)
  rw [h2];show (if x.tc=1 then _ else _)=_
  rw [if_neg (by omega),show (k+1)*4=k*4+4 by omega];unfold Addr.add;by_cases hk:k*4=0 <;> simp [hk,Nat.add_assoc]
 ·unfold Ad.tl;dsimp only;rw [hs];omega
theorem hasC (c:Nat) (s:CS) (x:Ad) (w:List UInt8) (hx:OkX TA L s x):FnC Tryz.prog 60 [cP c,.string (Sc.bs w)] (cmH c s x) [tkB TA L,spaceV] (fun _=>.bool (mSees w s)) (fun y:Ad=>cmH c (mHas w s) y) (fun y=>OkX TA L (mHas w s) y):=by
 have hsee:=seesC c s x w hx;unfold mHas;by_cases h:mSees w s=true
 ·cases ht:s.toks with
  | nil=>rw [mSees,ht] at h;exact absurd h (by simp)
  | cons t r=>
   have hxt:OkX TA L (mTail s) x.tl:=hx.tl ht (by unfold mTail;simp [ht]);obtain ⟨a,ha⟩:=hx.some (by rw [ht];simp);have hcap:=hx.cap;rw [if_pos h];rw [h] at hsee ⊢;unfold cmH csC cP at hsee ⊢;rw [ht] at hcap hsee ⊢;rw [ha] at hsee ⊢;have hl:(t::r).length=r.length+1:=rfl;rw [hl] at hcap hsee ⊢;refine fn_intro Tryz.func60 Tryz.ntmps60 rfl rfl rfl (fun w0=>?_);refine rrs ?_;refine cl (hsee) ?_;intro y hy;try simp only [Sx.ap1,Sx.ap2,Sx.ap3]
   cases hy;rw [ha];refine rr ?_;exact en x.tl hxt (hp:=by unfold Ad.tl mTail;rw [ha,ht];dsimp only [Option.map,List.tail];(repeat (first | exact Has.nil | (apply Has.cons;focus ((repeat (first | exact pick_here | apply pick_there));done)) | apply Has.nrow | apply Has.gen0)))
 ·have h2:mSees w s=false:=by simpa using h
  rw [if_neg h];rw [h2] at hsee ⊢;unfold cmH csC cP at hsee ⊢;refine fn_intro Tryz.func60 Tryz.ntmps60 rfl rfl rfl (fun w0=>?_);refine rrs ?_;refine cl (hsee) ?_;intro y hy;try simp only [Sx.ap1,Sx.ap2,Sx.ap3]
  cases hy;refine rr ?_;exact en x hx
theorem mustC (c:Nat) (s:CS) (x:Ad) (w:List UInt8) (hx:OkX TA L s x):FnC Tryz.prog 61 [cP c,.string (Sc.bs w)] (cmH c s x) [tkB TA L,spaceV] (fun _=>.tuple #[]) (fun y:Ad=>cmH c (mMust w s) y) (fun y=>OkX TA L (mMust w s) y):=by
 have h1:=hasC c s x w hx;unfold mMust mHas at *;by_cases h:mSees w s=true
 ·rw [if_pos h] at h1 ⊢;rw [h] at h1;unfold cmH csC cP at h1 ⊢;refine fn_intro Tryz.func61 Tryz.ntmps61 rfl rfl rfl (fun w0=>?_);refine rrs ?_;refine cl (h1) ?_;intro y hy;refine rrs ?_;exact en y hy
 ·rw [if_neg h] at h1 ⊢;rw [show mSees w s=false by simpa using h] at h1;have h2:=fun y hy=>hereC c s y (L:=L) (TA:=TA) hy
  have h3:=fun y=>stopC (TA:=TA) (L:=L) c s y 2 (mHere s)
  generalize mStop 2 (mHere s) s=s3 at *;unfold cmH csC cP at h1 h2 h3 ⊢;refine fn_intro Tryz.func61 Tryz.ntmps61 rfl rfl rfl (fun w0=>?_);refine rrs ?_;refine cl (h1) ?_;intro y hy;refine rrs ?_;refine cl (h2 y hy) ?_;intro z hz;try simp only [Sx.ap1,Sx.ap2,Sx.ap3]
  cases hz;refine rr ?_;refine cl (h3 y) ?_;intro z hz;refine rrs ?_;exact en z hz
theorem namedC (c:Nat) (s:CS) (x:Ad) (hx:OkX TA L s x):FnC Tryz.prog 123 [cP c] (cmH c s x) [tkB TA L,spaceV] (fun _=>.bool (mNamed s)) (fun y:Ad=>cmH c s y) (fun y=>y=x):=by
 cases ht:s.toks with
 | nil=>
  unfold cmH csC cP mNamed;rw [ht,List.length_nil];refine fn_intro Tryz.func123 Tryz.ntmps123 rfl rfl rfl (fun w0=>?_);refine rrs ?_;refine dx [0,1,2,3,4,5,6,7,8,9,10,11,12,13,14,15,16,18,19,20,21,22,23,24,17,25,26,27,28] [3,10,13,21,24] [] ?_;refine rr ?_;exact en x rfl
 | cons t r=>
  obtain ⟨a,ha⟩:=hx.some (by rw [ht];simp);have hwd:=wd_is t.1.text;unfold cmH csC cP mNamed;refine fn_intro Tryz.func123 Tryz.ntmps123 rfl rfl rfl (fun w0=>?_);try simp only [Sx.ap1,Sx.ap2,Sx.ap3]
  refine w_turn (fun w hw=>tk_look (k:=7) hw rfl hx (by rw [ht];simp) ha) ?_;rw [ht,ha,tokC_cons];have hl:(t::r).length=r.length+1:=rfl;rw [hl];dsimp only;by_cases h1:t.1.kind=1
  ·skip
   refine rr ?_;refine dx [0,1,2,3,4,5,6,7,8,9,10,11,12,13,14,15,16,18,19,20,21,22,23,24,17,25,26,27,28] [3,10,13,21,24] [] ?_;refine rr ?_;refine cld (wordsC) ?_;intro aa _;try simp only [Sx.ap1,Sx.ap2,Sx.ap3]
   refine w_use (fun w hw=>(hw.pick 0 rfl).row_some (by first | omega | decide | (simp;done) | (simp <;> omega))) ?_;rintro ⟨g1,rfl⟩;have hcs:=containsSC g1 0 19 wdB (Sc.bs t.1.text) (by decide);rw [hwd,show wdB.length=19 from rfl] at hcs;refine rr ?_;refine cld (hcs) ?_;intro _ _;refine rrs ?_;exact en x rfl (hp:=by rw [ha];(repeat (first | exact Has.nil | (apply Has.cons;focus ((repeat (first | exact pick_here | apply pick_there));done)) | apply Has.nrow | apply Has.gen0))) (hv:=by simp [packR,h1])
  ·skip
   refine rr ?_;refine dx [0,1,2,3,4,5,6,7,8,9,10,11,12,13,14,15,16,18,19,20,21,22,23,24,17,25,26,27,28] [3,10,13,21,24] [] ?_;refine rr ?_;exact en x rfl (hp:=by rw [ha];(repeat (first | exact Has.nil | (apply Has.cons;focus ((repeat (first | exact pick_here | apply pick_there));done)) | apply Has.nrow | apply Has.gen0))) (hv:=by simp [packR,h1])
end
section
variable {TA:Addr} {L:List (Sc.Tk×Nat)}
theorem nameC (c:Nat) (s:CS) (x:Ad) (hx:OkX TA L s x):FnC Tryz.prog 62 [cP c] (cmH c s x) [tkB TA L,spaceV] (fun _=>.tuple #[.string (Sc.bs (mName s).1),.int .i64 (mHere s)]) (fun y:Ad=>cmH c (mName s).2 y) (fun y=>OkX TA L (mName s).2 y):=by
 have h1:=hereC c s x hx;have h2:=namedC c s x hx;unfold mName;by_cases h:mNamed s=true
 ·rw [if_pos h];rw [h] at h2
  obtain ⟨t,r,ht⟩:∃ t r,s.toks=t::r:=by
   cases ht:s.toks with
   | nil=>rw [mNamed,ht] at h;exact absurd h (by simp)
   | cons t r=>exact ⟨t,r,rfl⟩
  have hxt:OkX TA L (mTail s) x.tl:=hx.tl ht (by unfold mTail;simp [ht]);obtain ⟨a,ha⟩:=hx.some (by rw [ht];simp);have hcap:=hx.cap;have hl:(t::r).length=r.length+1:=rfl;rw [ht,hl] at hcap;have hT:mText s=t.1.text:=by unfold mText;rw [ht]
  unfold cmH csC cP at h1 h2 ⊢;dsimp only;rw [hT];refine fn_intro Tryz.func62 Tryz.ntmps62 rfl rfl rfl (fun w0=>?_);refine rrs ?_;refine cl (h1) ?_;intro z hz;try simp only [Sx.ap1,Sx.ap2,Sx.ap3]
  cases hz;refine rr ?_;refine cl (h2) ?_;intro z hz;try simp only [Sx.ap1,Sx.ap2,Sx.ap3]
  cases hz;refine rr ?_;refine w_turn (fun w hw=>tk_look (k:=7) hw rfl hx (by rw [ht];simp) ha) ?_;rw [ht,ha,hl,tokC_cons];refine rr ?_;exact en x.tl hxt (hp:=by unfold Ad.tl mTail;rw [ha,ht];dsimp only [Option.map,List.tail];(repeat (first | exact Has.nil | (apply Has.cons;focus ((repeat (first | exact pick_here | apply pick_there));done)) | apply Has.nrow | apply Has.gen0)))
 ·rw [if_neg h];rw [show mNamed s=false by simpa using h] at h2;have h3:=stopC (TA:=TA) (L:=L) c s x 2 (mHere s);generalize mStop 2 (mHere s) s=s3 at *;unfold cmH csC cP at h1 h2 h3 ⊢;refine fn_intro Tryz.func62 Tryz.ntmps62 rfl rfl rfl (fun w0=>?_);refine rrs ?_;refine cl (h1) ?_;intro z hz;try simp only [Sx.ap1,Sx.ap2,Sx.ap3]
  cases hz;refine rr ?_;refine cl (h2) ?_;intro z hz;try simp only [Sx.ap1,Sx.ap2,Sx.ap3]
  cases hz;refine rr ?_;refine cl (h3) ?_;intro z hz;refine rrs ?_;exact en z hz
theorem numberC (c:Nat) (s:CS) (x:Ad) (hx:OkX TA L s x):FnC Tryz.prog 168 [cP c] (cmH c s x) [tkB TA L,spaceV] (fun _=>.tuple #[.int .i64 (mNumber s).1,.int .i64 (mHere s)]) (fun y:Ad=>cmH c (mNumber s).2 y) (fun y=>OkX TA L (mNumber s).2 y):=by
 have h1:=hereC c s x hx;have h3:=stopC (TA:=TA) (L:=L) c s x 2 (mHere s);unfold mNumber;cases ht:s.toks with
 | nil=>
  have h:mIsNum s=false:=by unfold mIsNum;rw [ht]
  rw [h];generalize mStop 2 (mHere s) s=s3 at *;unfold cmH csC cP at h1 h3 ⊢;rw [if_neg (by decide)];rw [ht,List.length_nil] at h1 h3 ⊢;refine fn_intro Tryz.func168 Tryz.ntmps168 rfl rfl rfl (fun w0=>?_);refine rrs ?_;refine cl (h1) ?_;intro z hz;try simp only [Sx.ap1,Sx.ap2,Sx.ap3]
  cases hz;refine rr ?_;refine cl (h3) ?_;intro z hz;refine rrs ?_;exact en z hz
 | cons t r=>
  have hxt:OkX TA L (mTail s) x.tl:=hx.tl ht (by unfold mTail;simp [ht]);obtain ⟨a,ha⟩:=hx.some (by rw [ht];simp);have hcap:=hx.cap;have hl:(t::r).length=r.length+1:=rfl;rw [ht,hl] at hcap;have hT:mNum s=t.1.num:=by unfold mNum;rw [ht]
  have hI:mIsNum s=decide (t.1.kind=2):=by unfold mIsNum;rw [ht]
  by_cases h:t.1.kind=2
  ·rw [if_pos (by rw [hI];exact decide_eq_true h)];unfold cmH csC cP at h1 ⊢;dsimp only;rw [hT];refine fn_intro Tryz.func168 Tryz.ntmps168 rfl rfl rfl (fun w0=>?_);refine rrs ?_;refine cl (h1) ?_;intro z hz;try simp only [Sx.ap1,Sx.ap2,Sx.ap3]
   cases hz;refine w_turn (fun w hw=>tk_look (k:=7) hw rfl hx (by rw [ht];simp) ha) ?_;rw [ht,ha,hl,tokC_cons];refine rr ?_;exact en x.tl hxt (hp:=by unfold Ad.tl mTail;rw [ha,ht];dsimp only [Option.map,List.tail];(repeat (first | exact Has.nil | (apply Has.cons;focus ((repeat (first | exact pick_here | apply pick_there));done)) | apply Has.nrow | apply Has.gen0)))
  ·rw [if_neg (by rw [hI];simpa using h)];generalize mStop 2 (mHere s) s=s3 at *;unfold cmH csC cP at h1 h3 ⊢;refine fn_intro Tryz.func168 Tryz.ntmps168 rfl rfl rfl (fun w0=>?_);refine rrs ?_;refine cl (h1) ?_;intro z hz;try simp only [Sx.ap1,Sx.ap2,Sx.ap3]
   cases hz;refine w_turn (fun w hw=>tk_look (k:=7) hw rfl hx (by rw [ht];simp) ha) ?_;rw [ht,ha,hl,tokC_cons] at *;refine rr ?_;refine cl (h3) ?_;intro z hz;refine rrs ?_;exact en z hz
end
section
variable {TA:Addr} {L:List (Sc.Tk×Nat)}
def bP (c:Nat):Value:=.pointer (some ⟨c,2,none⟩)
theorem farC (i:In):FnC (α:=Unit) Tryz.prog 124 [inG i] [] [] (fun _=>.bool (isFar i)) (fun _=>[]) (fun _=>True):=by
 unfold inG isFar;refine fn_intro Tryz.func124 Tryz.ntmps124 rfl rfl rfl (fun w0=>?_);try simp only [Sx.ap1,Sx.ap2,Sx.ap3]
 by_cases h1:i.op=17
 ·skip
  refine rr ?_;intro b1 _;refine rr ?_;exact en () trivial (hv:=by simp [packR,h1])
 ·skip
  refine rr ?_;intro b1 _;refine rr ?_;exact en () trivial (hv:=by simp [packR,h1];rfl)
theorem insC_snoc (l:List In) (i:In):insC (l++[i])=insC l++inV i:=by simp [insC]
theorem paC_snoc (l:List Pa) (i:Pa):paC (l++[i])=paC l++paV i:=by simp [paC]
theorem len_snoc {α:Type} (l:List α) (i:α):(l++[i]).length=l.length+1:=by simp
theorem hereC2 (c:Nat) (s:CS) (x:Ad):FnC Tryz.prog 172 [bP c] (cmH c s x) [] (fun _=>.int .i64 s.code.length) (fun y:Ad=>cmH c s y) (fun y=>y=x):=by
 unfold cmH csC bP;refine fn_intro Tryz.func172 Tryz.ntmps172 rfl rfl rfl (fun w0=>?_);refine rrs ?_;exact en x rfl
theorem putC (c:Nat) (s:CS) (x:Ad) (i:In) (hn:s.code.length≤1000000000000) (hx:OkX TA L s x):FnC Tryz.prog 69 [bP c,inG i] (cmH c s x) [] (fun _=>.int .i64 s.code.length) (fun y:Ad=>cmH c (mPut i s) y) (fun y=>OkX TA L (mPut i s) y):=by
 unfold cmH csC bP mPut inG;dsimp only;rw [len_snoc,insC_snoc];refine fn_intro Tryz.func69 Tryz.ntmps69 rfl rfl rfl (fun w0=>?_);refine rrs ?_;intro b1 _;refine rr ?_;refine dr [0,1,2,3,4,5,6,7,8,9,10] [4,5] [0,1] ?_;refine rr ?_;refine rr ?_;intro b2 _;refine rr ?_;rintro ⟨a1,c1⟩ ⟨hc1,_⟩;refine rr ?_;exact en { x with ca:=a1,cc:=c1 } (hx.same rfl rfl rfl) (hv:=by simp [packR])
theorem markC (c:Nat) (s:CS) (x:Ad) (i:In) (k n:Int) (hn:s.code.length≤1000000000000) (hp:s.pats.length≤1000000000000) (hx:OkX TA L s x):FnC Tryz.prog 67 [bP c,inG i,.int .i64 k,.int .i64 n] (cmH c s x) [] (fun _=>.int .i64 s.code.length) (fun y:Ad=>cmH c (mMark i k n s) y) (fun y=>OkX TA L (mMark i k n s) y):=by
 have hput:=fun y hy=>putC (TA:=TA) (L:=L) c { s with pats:=s.pats++[⟨(s.code.length:Int),k,n⟩] } y i hn hy
 unfold mMark;unfold cmH csC bP at hput ⊢;dsimp only at hput ⊢;rw [len_snoc,paC_snoc] at hput;unfold inG at *;refine fn_intro Tryz.func67 Tryz.ntmps67 rfl rfl rfl (fun w0=>?_);refine rrs ?_;intro b1 _;refine rr ?_;refine dr [0,1,2,3,4,5,6,7,8,9,10,11,12,13,14,15,16,17] [4,8] [0,1] ?_;refine rr ?_;refine rr ?_;intro b2 _;refine rr ?_;rintro ⟨a1,c1⟩ ⟨hc1,_⟩;refine rr ?_;refine cl (hput { x with pa:=a1,pc:=c1 } (hx.same rfl rfl rfl)) ?_;intro y hy;refine rrs ?_;exact en y hy
theorem jumpC (c:Nat) (s:CS) (x:Ad) (i:In) (hn:s.code.length≤1000000000000) (hp:s.pats.length≤1000000000000) (hx:OkX TA L s x):FnC Tryz.prog 64 [bP c,inG i] (cmH c s x) [] (fun _=>.int .i64 s.code.length) (fun y:Ad=>cmH c (mJump i s) y) (fun y=>OkX TA L (mJump i s) y):=by
 have hfar:=farC i;have h1:=markC (TA:=TA) (L:=L) c s x i 0 0 hn hp hx;have h2:=putC (TA:=TA) (L:=L) c s x i hn hx;unfold mJump;by_cases h:isFar i=true
 ·rw [if_pos h];rw [h] at hfar;unfold cmH csC bP inG at *;refine fn_intro Tryz.func64 Tryz.ntmps64 rfl rfl rfl (fun w0=>?_);refine rrs ?_;intro b1 _;refine rr ?_;refine cl (hfar) ?_;intro _ _;refine rrs ?_;refine cl (h1) ?_;intro y hy;refine rrs ?_;exact en y hy
 ·rw [if_neg h];rw [show isFar i=false by simpa using h] at hfar;unfold cmH csC bP inG at *;refine fn_intro Tryz.func64 Tryz.ntmps64 rfl rfl rfl (fun w0=>?_);refine rrs ?_;intro b1 _;refine rr ?_;refine cl (hfar) ?_;intro _ _;refine rrs ?_;refine cl (h2) ?_;intro y hy;refine rrs ?_;exact en y hy
theorem takeC (c:Nat) (s:CS) (x:Ad) (ht:s.taken≤8) (hx:OkX TA L s x):FnC Tryz.prog 272 [bP c] (cmH c s x) [] (fun _=>.tuple #[.int .i64 (if s.taken=8 then 0 else 8+(s.taken:Int)),.bool (decide (s.taken≠8))]) (fun y:Ad=>cmH c (mTake s) y) (fun y=>OkX TA L (mTake s) y):=by
 unfold mTake;by_cases h:s.taken=8
 ·simp only [if_pos h];unfold cmH csC bP;rw [h];refine fn_intro Tryz.func272 Tryz.ntmps272 rfl rfl rfl (fun w0=>?_);refine rrs ?_;exact en x hx
 ·simp only [if_neg h];unfold cmH csC bP;have h':¬ ((s.taken:Int)=8):=by omega
  refine fn_intro Tryz.func272 Tryz.ntmps272 rfl rfl rfl (fun w0=>?_);refine rrs ?_;exact en x (hx.same rfl rfl rfl) (hv:=by simp [packR,h];omega)
theorem giveC (c:Nat) (s:CS) (x:Ad) (ht:s.taken≤8) (hx:OkX TA L s x):FnC Tryz.prog 180 [bP c] (cmH c s x) [] (fun _=>.bool (decide (s.taken≠0))) (fun y:Ad=>cmH c (mGive s) y) (fun y=>OkX TA L (mGive s) y):=by
 unfold mGive;by_cases h:s.taken=0
 ·unfold cmH csC bP;rw [h];refine fn_intro Tryz.func180 Tryz.ntmps180 rfl rfl rfl (fun w0=>?_);refine rrs ?_;exact en x (hx.same rfl rfl rfl)
 ·unfold cmH csC bP;have h':¬ ((s.taken:Int)=0):=by omega
  have h2:((s.taken-1:Nat):Int)=(s.taken:Int)-1:=by omega
  dsimp only;rw [h2];refine fn_intro Tryz.func180 Tryz.ntmps180 rfl rfl rfl (fun w0=>?_);refine rrs ?_;exact en x (hx.same rfl rfl rfl) (hv:=by simp [packR,h])
end
section
variable {TA:Addr} {L:List (Sc.Tk×Nat)}
theorem insC_set:∀ (l:List In) (k:Nat) (j:In) (h:k<l.length),insC (l.set k j)=(insC l).take (0+k*5)++inV j++(insC l).drop (0+k*5+5)
 | i::l,0,j,_=>by simp [insC,inV]
 | i::l,k+1,j,h=>by
  have ih:=insC_set l k j (by simpa using h);rw [Nat.zero_add] at ih ⊢;rw [List.set_cons_succ];simp only [insC,List.flatMap_cons] at ih ⊢;rw [ih,show (k+1)*5=k*5+1+1+1+1+1 by omega,show k*5+1+1+1+1+1+5=k*5+5+1+1+1+1+1 by omega];simp [inV]
theorem aimC (c:Nat) (s:CS) (x:Ad) (pl tg:Int) (h1 : -1000000000000≤pl∧pl≤1000000000000) (h2:(∀ i,s.code[pl.toNat]? = some i→isFar i=true)∨(-1000000000000≤tg∧tg≤1000000000000)) (hn:s.code.length≤1000000000000):FnC Tryz.prog 128 [bP c,.int .i64 pl,.int .i64 tg] (cmH c s x) [] (fun _=>.bool (aimL s.code pl tg).isSome) (fun y:Ad=>cmH c (mAim pl tg s) y) (fun y=>y=x):=by
 unfold mAim;by_cases hr:pl<0∨(s.code.length:Int)≤pl
 ·have ha:aimL s.code pl tg=none:=by unfold aimL;rw [if_pos hr]
  simp only [ha];unfold cmH csC bP;by_cases h0:pl<0
  ·skip
   refine fn_intro Tryz.func128 Tryz.ntmps128 rfl rfl rfl (fun w0=>?_);refine rrs ?_;exact en x rfl
  ·have h3:(s.code.length:Int)≤pl:=by omega
   refine fn_intro Tryz.func128 Tryz.ntmps128 rfl rfl rfl (fun w0=>?_);refine rrs ?_;exact en x rfl
 ·obtain ⟨i,hi⟩:=some_at (l:=s.code) (k:=pl.toNat) (by omega);have hfar:=farC i;have hg:s.code.getD pl.toNat ⟨0,0,0,0,0⟩=i:=by simp [List.getD,hi]
  have hA:=insC_all hi (0+pl.toNat*5) (by omega);have hA0:=insC_at hi 0 (by omega) (0+pl.toNat*5+0) (by omega);have hL:=insC_len s.code;unfold aimL;rw [if_neg hr,hg];unfold aimI;have hS:=fun j=>insC_set s.code pl.toNat j (by omega)
  obtain ⟨ta,tc,ca,cc,pa,pc,na,nc,ba,bc,ea,ec,ia,ic⟩:=x;by_cases hf:isFar i=true
  ·rw [if_pos hf];rw [hf] at hfar;unfold cmH csC bP;unfold inG at hfar;unfold inV at hA hA0 hS;dsimp only;rw [hS,List.length_set];refine fn_intro Tryz.func128 Tryz.ntmps128 rfl rfl rfl (fun w0=>?_);try simp only [Sx.ap1,Sx.ap2,Sx.ap3]
   refine w_use (fun w hw=>(hw.pick 1 rfl).row_some (by first | omega | decide | (simp;done) | (simp <;> omega))) ?_;rintro ⟨g1,rfl⟩;refine rr ?_;intro b1 _;refine rr ?_;refine cl (hfar) ?_;intro _ _;refine rrs ?_;refine dr [0,1,2,3,4,5,6,7] [3,5] [0,1] ?_;refine rr ?_;refine rr ?_;exact en ⟨ta,tc,some ⟨g1,0,none⟩,cc,pa,pc,na,nc,ba,bc,ea,ec,ia,ic⟩ rfl
  ·have h2:=h2.resolve_left (fun h=>hf (h i hi));rw [if_neg hf];rw [show isFar i=false by simpa using hf] at hfar;by_cases h15:i.op=15∨i.op=16
   ·rw [if_pos h15];unfold cmH csC bP;unfold inG at hfar;unfold inV at hA hA0 hS;dsimp only;rw [hS,List.length_set];by_cases h5:i.op=15
    ·skip
     refine fn_intro Tryz.func128 Tryz.ntmps128 rfl rfl rfl (fun w0=>?_);try simp only [Sx.ap1,Sx.ap2,Sx.ap3]
     refine w_use (fun w hw=>(hw.pick 1 rfl).row_some (by first | omega | decide | (simp;done) | (simp <;> omega))) ?_;rintro ⟨g1,rfl⟩;refine rr ?_;intro b1 _;refine rr ?_;refine cl (hfar) ?_;intro _ _;refine rrs ?_;refine dr [0,1,2,3,4,5,6,7] [3,5] [0,1] ?_;refine rr ?_;refine rr ?_;exact en ⟨ta,tc,some ⟨g1,0,none⟩,cc,pa,pc,na,nc,ba,bc,ea,ec,ia,ic⟩ rfl
    ·have h6:i.op=16:=h15.resolve_left h5;refine fn_intro Tryz.func128 Tryz.ntmps128 rfl rfl rfl (fun w0=>?_);try simp only [Sx.ap1,Sx.ap2,Sx.ap3]
     refine w_use (fun w hw=>(hw.pick 1 rfl).row_some (by first | omega | decide | (simp;done) | (simp <;> omega))) ?_;rintro ⟨g1,rfl⟩;refine rr ?_;intro b1 _;refine rr ?_;refine cl (hfar) ?_;intro _ _;refine rrs ?_;refine dr [0,1,2,3,4,5,6,7] [3,5] [0,1] ?_;refine rr ?_;refine rr ?_;exact en ⟨ta,tc,some ⟨g1,0,none⟩,cc,pa,pc,na,nc,ba,bc,ea,ec,ia,ic⟩ rfl
   ·rw [if_neg h15];have h5:¬ i.op=15:=fun h=>h15 (.inl h)
    have h6:¬ i.op=16:=fun h=>h15 (.inr h)
    unfold cmH csC bP;unfold inG at hfar;unfold inV at hA hA0 hS;dsimp only;refine fn_intro Tryz.func128 Tryz.ntmps128 rfl rfl rfl (fun w0=>?_);try simp only [Sx.ap1,Sx.ap2,Sx.ap3]
    refine w_use (fun w hw=>(hw.pick 1 rfl).row_some (by first | omega | decide | (simp;done) | (simp <;> omega))) ?_;rintro ⟨g1,rfl⟩;refine rr ?_;intro b1 _;refine rr ?_;refine cl (hfar) ?_;intro _ _;refine rrs ?_;exact en ⟨ta,tc,some ⟨g1,0,none⟩,cc,pa,pc,na,nc,ba,bc,ea,ec,ia,ic⟩ rfl
end
section
variable {TA:Addr} {L:List (Sc.Tk×Nat)}
theorem mAim_toks (pl tg:Int) (s:CS):(mAim pl tg s).toks=s.toks:=by unfold mAim;split <;> rfl
theorem mJump_code (i:In) (s:CS):(mJump i s).code.length=s.code.length+1:=by unfold mJump;split <;> simp [mMark,mPut]
theorem aimC' (c:Nat) (s:CS) (x:Ad) (pl tg:Int) (h1 : -1000000000000≤pl∧pl≤1000000000000) (h2:(∀ i,s.code[pl.toNat]? = some i→isFar i=true)∨(-1000000000000≤tg∧tg≤1000000000000)) (hn:s.code.length≤1000000000000) (hx:OkX TA L s x):FnC Tryz.prog 128 [bP c,.int .i64 pl,.int .i64 tg] (cmH c s x) [] (fun _=>.bool (aimL s.code pl tg).isSome) (fun y:Ad=>cmH c (mAim pl tg s) y) (fun y=>OkX TA L (mAim pl tg s) y):=by
 have h:=aimC c s x pl tg h1 h2 hn;exact h.map (fun y hy=>⟨y,rfl,⟨[0,0,0,0,0,0,0],[],rfl⟩,by subst hy;exact hx.same (mAim_toks _ _ _) rfl rfl⟩)
theorem landC (c:Nat) (s:CS) (x:Ad) (pl:Int) (h1 : -1000000000000≤pl∧pl≤1000000000000) (hn:s.code.length≤1000000000000) (hx:OkX TA L s x):FnC Tryz.prog 66 [bP c,.int .i64 pl] (cmH c s x) [] (fun _=>.bool (aimL s.code pl s.code.length).isSome) (fun y:Ad=>cmH c (mLand pl s) y) (fun y=>OkX TA L (mLand pl s) y):=by
 have h2:=aimC' (TA:=TA) (L:=L) c s x pl s.code.length h1 (.inr (by omega)) hn hx;unfold mLand;unfold cmH csC bP at *;refine fn_intro Tryz.func66 Tryz.ntmps66 rfl rfl rfl (fun w0=>?_);refine rrs ?_;refine cl (h2) ?_;intro y hy;refine rrs ?_;exact en y hy
theorem backC (c:Nat) (s:CS) (x:Ad) (i:In) (tg:Int) (h2:isFar i=true) (hn:s.code.length<1000000000000) (hp:s.pats.length≤1000000000000) (hx:OkX TA L s x):FnC Tryz.prog 217 [bP c,inG i,.int .i64 tg] (cmH c s x) [] (fun _=>.int .i64 s.code.length) (fun y:Ad=>cmH c (mBack i tg s) y) (fun y=>OkX TA L (mBack i tg s) y):=by
 have h3:=jumpC (TA:=TA) (L:=L) c s x i (by omega) hp hx;have h4:=fun y hy=>aimC' (TA:=TA) (L:=L) c (mJump i s) y s.code.length tg (by omega) (.inl (fun j hj=>by unfold mJump at hj;rw [if_pos h2] at hj;simp [mMark,mPut] at hj;subst hj;exact h2)) (by rw [mJump_code];omega) hy
 unfold mBack;unfold cmH csC bP inG at *;refine fn_intro Tryz.func217 Tryz.ntmps217 rfl rfl rfl (fun w0=>?_);refine rrs ?_;intro b1 _;refine rr ?_;refine cl (h3) ?_;intro y hy;refine rrs ?_;refine cl (h4 y hy) ?_;intro z hz;refine rrs ?_;exact en z hz
theorem fitsC (n:Int) (h:0≤n∧n≤32767):FnC (α:=Unit) Tryz.prog 141 [.int .i64 n,.int .i64 16] [] [] (fun _=>.bool true) (fun _=>[]) (fun _=>True):=by
 refine fn_intro Tryz.func141 Tryz.ntmps141 rfl rfl rfl (fun w0=>?_);refine rrs ?_;have h1:IntKind.i64.wrap (1*2 ^ min ((16:Int)-1).toNat IntKind.i64.bits)=32768:=by decide +kernel
 have h2:IntKind.i64.wrap (-32768) = -32768:=by decide +kernel
 rw [h1,h2];have h3 : -32768≤n:=by omega
 refine rr ?_;exact en () trivial (hv:=by show Value.bool _=_;congr 1;exact decide_eq_true (by omega))
theorem constC (c:Nat) (s:CS) (x:Ad) (r n:Int) (h:0≤n∧n≤32767) (hn:s.code.length≤1000000000000) (hx:OkX TA L s x):FnC Tryz.prog 269 [bP c,.int .i64 r,.int .i64 n] (cmH c s x) [] (fun _=>.tuple #[]) (fun y:Ad=>cmH c (mConst r n s) y) (fun y=>OkX TA L (mConst r n s) y):=by
 have h1:=fitsC n h;have h2:=putC (TA:=TA) (L:=L) c s x ⟨10,r,0,0,n⟩ hn hx;unfold mConst;unfold cmH csC bP inG at *;refine fn_intro Tryz.func269 Tryz.ntmps269 rfl rfl rfl (fun w0=>?_);refine rrs ?_;refine cl (h1) ?_;intro _ _;refine rrs ?_;refine cl (h2) ?_;intro y hy;refine rrs ?_;exact en y hy
theorem insC_one (l:List In):∀ u∈insC l,u.oneCell'=true:=by
 intro u hu;simp only [insC,List.mem_flatMap] at hu;obtain ⟨i,_,hu⟩:=hu;simp only [inV,List.mem_cons,List.not_mem_nil,or_false] at hu;rcases hu with rfl | rfl | rfl | rfl | rfl <;> rfl
theorem paC_one (l:List Pa):∀ u∈paC l,u.oneCell'=true:=by
 intro u hu;simp only [paC,List.mem_flatMap] at hu;obtain ⟨i,_,hu⟩:=hu;simp only [paV,List.mem_cons,List.not_mem_nil,or_false] at hu;rcases hu with rfl | rfl | rfl <;> rfl
theorem cloneC (a:Option Addr) (k:Nat) (l:List In) (hn:l.length≤1000000000000):FnC (α:=Option Addr×Nat) Tryz.prog 71 [.slice a l.length k] [] [rng a (insC l)] (fun z=>.slice z.1 l.length z.2) (fun z=>[row z.1 z.2 105 5 l.length (insC l)]) (fun _=>True):=by
 have hone:=insC_one l;have hlen:=insC_len l;cases a with
 | none=>
  by_cases h0:l.length=0
  ·rw [List.length_eq_zero_iff.mp h0];refine fn_intro Tryz.func71 Tryz.ntmps71 rfl rfl rfl (fun w0=>?_);refine rrs ?_;exact en (none,0) trivial
  ·skip
   refine fn_intro Tryz.func71 Tryz.ntmps71 rfl rfl rfl (fun w0=>?_);try simp only [Sx.ap1,Sx.ap2,Sx.ap3]
   refine w_use (fun w hw=>(hw.pick 0 rfl).rng_some (by omega)) ?_;rintro ⟨g1,hg⟩;cases hg
 | some a=>
  refine fn_intro Tryz.func71 Tryz.ntmps71 rfl rfl rfl (fun w0=>?_);refine rrs ?_;intro b1 _;refine rr ?_;rintro ⟨z1,z2⟩ _;refine rr ?_;exact en (z1,z2) trivial (hp:=by rw [Nat.zero_add,List.nil_append];(repeat (first | exact Has.nil | (apply Has.cons;focus ((repeat (first | exact pick_here | apply pick_there));done)) | apply Has.nrow | apply Has.gen0))) (hv:=by rw [Nat.zero_add];rfl)
theorem cloneP (a:Option Addr) (k:Nat) (l:List Pa) (hn:l.length≤1000000000000):FnC (α:=Option Addr×Nat) Tryz.prog 72 [.slice a l.length k] [] [rng a (paC l)] (fun z=>.slice z.1 l.length z.2) (fun z=>[row z.1 z.2 94 3 l.length (paC l)]) (fun _=>True):=by
 have hone:=paC_one l;have hlen:=paC_len l;cases a with
 | none=>
  by_cases h0:l.length=0
  ·rw [List.length_eq_zero_iff.mp h0];refine fn_intro Tryz.func72 Tryz.ntmps72 rfl rfl rfl (fun w0=>?_);refine rrs ?_;exact en (none,0) trivial
  ·skip
   refine fn_intro Tryz.func72 Tryz.ntmps72 rfl rfl rfl (fun w0=>?_);try simp only [Sx.ap1,Sx.ap2,Sx.ap3]
   refine w_use (fun w hw=>(hw.pick 0 rfl).rng_some (by omega)) ?_;rintro ⟨g1,hg⟩;cases hg
 | some a=>
  refine fn_intro Tryz.func72 Tryz.ntmps72 rfl rfl rfl (fun w0=>?_);refine rrs ?_;intro b1 _;refine rr ?_;rintro ⟨z1,z2⟩ _;refine rr ?_;exact en (z1,z2) trivial (hp:=by rw [Nat.zero_add,List.nil_append];(repeat (first | exact Has.nil | (apply Has.cons;focus ((repeat (first | exact pick_here | apply pick_there));done)) | apply Has.nrow | apply Has.gen0))) (hv:=by rw [Nat.zero_add];rfl)
theorem codeC (c:Nat) (s:CS) (x:Ad) (hn:s.code.length≤1000000000000):FnC (α:=Option Addr×Nat) Tryz.prog 29 [bP c] (cmH c s x) [] (fun z=>.slice z.1 s.code.length z.2) (fun z=>cmH c s x++[row z.1 z.2 105 5 s.code.length (insC s.code)]) (fun _=>True):=by
 have h1:=cloneC x.ca x.cc s.code hn;unfold cmH csC bP at *;refine fn_intro Tryz.func29 Tryz.ntmps29 rfl rfl rfl (fun w0=>?_);refine rrs ?_;refine cl (h1) ?_;intro z _;refine rrs ?_;exact en z trivial
theorem patchesC (c:Nat) (s:CS) (x:Ad) (hn:s.pats.length≤1000000000000):FnC (α:=Option Addr×Nat) Tryz.prog 30 [bP c] (cmH c s x) [] (fun z=>.slice z.1 s.pats.length z.2) (fun z=>cmH c s x++[row z.1 z.2 94 3 s.pats.length (paC s.pats)]) (fun _=>True):=by
 have h1:=cloneP x.pa x.pc s.pats hn;unfold cmH csC bP at *;refine fn_intro Tryz.func30 Tryz.ntmps30 rfl rfl rfl (fun w0=>?_);refine rrs ?_;refine cl (h1) ?_;intro z _;refine rrs ?_;exact en z trivial
end
section
variable {TA:Addr} {L:List (Sc.Tk×Nat)}
def tP (c:Nat):Value:=.pointer (some ⟨c,5,none⟩)
theorem enC_len (l:List (ByteArray×Th)):(enC l).length=l.length*5:=flat_len (cells:=enV) (sz:=5) (fun _=>rfl) l
theorem enC_at {l:List (ByteArray×Th)} {k:Nat} {e:ByteArray×Th} (h:l[k]? = some e) (j:Nat) (hj:j<5) (n:Nat) (hn:n=k*5+j):(enC l)[n]? = (enV e)[j]? := by subst hn;exact flat_at (cells:=enV) (sz:=5) (fun _=>rfl) h hj
theorem enC_all {l:List (ByteArray×Th)} {k:Nat} {e:ByteArray×Th} (h:l[k]? = some e) (n:Nat) (hn:n=k*5):((enC l).drop n).take 5=enV e:=by subst hn;exact flat_get (cells:=enV) (sz:=5) (fun _=>rfl) h
theorem enC_th {l:List (ByteArray×Th)} {k:Nat} {e:ByteArray×Th} (h:l[k]? = some e) (n:Nat) (hn:n=k*5+1):((enC l).drop n).take 4=thV e.2:=by
 have h1:=congrArg (List.drop 1) (enC_all h (k*5) rfl);rw [List.drop_take,List.drop_drop] at h1;subst hn;exact h1
theorem natC_get {l:List Nat} {i b:Nat} (h:l[i]? = some b):(natC l)[i]? = some (.int .i64 (b:Int)):=by simp [natC,h]
theorem natC_len (l:List Nat):(natC l).length=l.length:=by simp [natC]
theorem enC_snoc (l:List (ByteArray×Th)) (e:ByteArray×Th):enC (l++[e])=enC l++enV e:=by simp [enC]
theorem natC_snoc (l:List Nat) (e:Nat):natC (l++[e])=natC l++[.int .i64 (e:Int)]:=by simp [natC]
theorem depthC (c:Nat) (s:CS) (x:Ad):FnC Tryz.prog 236 [tP c] (cmH c s x) [] (fun _=>.int .i64 s.begs.length) (fun y:Ad=>cmH c s y) (fun y=>y=x):=by
 unfold cmH csC tP;refine fn_intro Tryz.func236 Tryz.ntmps236 rfl rfl rfl (fun w0=>?_);refine rrs ?_;exact en x rfl
theorem openC (c:Nat) (s:CS) (x:Ad) (hn:s.begs.length≤1000000000000) (hx:OkX TA L s x):FnC Tryz.prog 63 [tP c] (cmH c s x) [] (fun _=>.tuple #[]) (fun y:Ad=>cmH c (mOpen s) y) (fun y=>OkX TA L (mOpen s) y):=by
 unfold cmH csC tP mOpen;dsimp only;rw [len_snoc,natC_snoc];refine fn_intro Tryz.func63 Tryz.ntmps63 rfl rfl rfl (fun w0=>?_);try simp only [Sx.ap1,Sx.ap2,Sx.ap3]
 refine dr [0,1,2,3,4,5,6,7,8,9,10,11,12,13,14] [4,8] [0] ?_;refine rr ?_;refine rr ?_;intro b1 _;refine rr ?_;rintro ⟨a1,c1⟩ ⟨hc1,_⟩;refine rr ?_;exact en { x with ba:=a1,bc:=c1 } (hx.same rfl rfl rfl)
theorem findC (c:Nat) (s:CS) (x:Ad) (name:ByteArray) (hn:s.ents.length≤1000000000000) (hb:s.begs.length≤1000000000000) (hbs:∀ x∈s.begs,x≤1000000000000):FnC Tryz.prog 215 [tP c,.string name] (cmH c s x) [] (fun _=>.tuple #[thG (findG s.ents s.begs name s.ents.length s.begs.length).1,.int .i64 (findG s.ents s.begs name s.ents.length s.begs.length).2.1,.bool (findG s.ents s.begs name s.ents.length s.begs.length).2.2]) (fun y:Ad=>cmH c s y) (fun y=>y=x):=by
 have h1:=depthC c s x;have hel:=enC_len s.ents;have hnl:=natC_len s.begs;obtain ⟨ta,tc,ca,cc,pa,pc,na,nc,ba,bc,ea,ec,ia,ic⟩:=x;unfold cmH csC tP at *;dsimp only at *;refine fn_intro Tryz.func215 Tryz.ntmps215 rfl rfl rfl (fun w0=>?_);refine rrs ?_;intro b0 _;refine rr ?_;refine cl (h1) ?_;intro _ hy;try simp only [Sx.ap1,Sx.ap2,Sx.ap3]
 cases hy;refine rr ?_;refine lo [0,1,4] (fun x:Nat×Nat=>[(7,.int .i64 (x.2:Int)),(8,.int .i64 ((x.1:Int)-1))]) (fun x=>[]) (fun x=>x.1≤s.ents.length∧x.2≤s.begs.length∧findG s.ents s.begs name x.1 x.2=findG s.ents s.begs name s.ents.length s.begs.length) (fun x=>x.1) (s.ents.length,s.begs.length) ⟨Nat.le_refl _,Nat.le_refl _,rfl⟩ ?_;rintro ⟨k,d⟩ ⟨hk,hd,hfind⟩ K1 hK1;dsimp only at hk hd hfind ⊢;by_cases hc:1≤k
 ·
  obtain ⟨j,rfl⟩:∃ j,k=j+1:=⟨k-1,by omega⟩
  obtain ⟨e,he⟩:=some_at (l:=s.ents) (k:=j) (by omega);have hj:(((j+1:Nat):Int)-1)=j:=by omega
  rw [hj];clear hj;have hg0:s.ents.getD j (.empty,th0)=e:=by simp [List.getD,he]
  have he1:(enC s.ents)[0+(j:Int).toNat*5+0]? = some (.string e.1):=enC_at he 0 (by omega) _ (by omega);have he2:((enC s.ents).drop (0+(j:Int).toNat*5+1)).take 4=thV e.2:=enC_th he _ (by omega);unfold thV at he2;refine w_use (fun w hw=>(hw.pick 3 rfl).row_some (by first | omega | decide | (simp;done) | (simp <;> omega))) ?_;rintro ⟨g1,rfl⟩;refine rr ?_;refine lo [0,1,4,8] (fun d':Nat=>[(7,.int .i64 (d':Int))]) (fun x=>[]) (fun d'=>d'≤d∧decD s.begs j d'=decD s.begs j d) (fun d'=>d') d ⟨Nat.le_refl _,rfl⟩ ?_;rintro d' ⟨hd',hdec⟩ K2 hK2;dsimp only at hd' hdec ⊢;cases d' with
  | zero=>
   by_cases hc:e.1=name
   ·skip
    refine rr ?_;exact en ⟨ta,tc,ca,cc,pa,pc,some ⟨g1,0,none⟩,nc,ba,bc,ea,ec,ia,ic⟩ rfl (hv:=by rw [← hfind];simp only [findG,hg0,hc,if_true,← hdec,decD];rfl)
   ·skip
    refine rr ?_;exact ro hK1 (j,0) ⟨by dsimp only;omega,by dsimp only;omega,by rw [← hfind];simp only [findG,hg0,if_neg hc,← hdec,decD]⟩
  | succ e'=>
   obtain ⟨b,hb⟩:=some_at (l:=s.begs) (k:=e') (by omega);have hb0:s.begs.getD e' 0=b:=by simp [List.getD,hb]
   have hb2:(natC s.begs)[0+(((e'+1:Nat):Int)-1).toNat*1]? = some (.int .i64 (b:Int)):=by
    rw [show 0+(((e'+1:Nat):Int)-1).toNat*1=e' by omega];exact natC_get hb
   have hbl:=hbs b (List.mem_of_getElem? hb);refine w_use (fun w hw=>(hw.pick 4 rfl).row_some (by first | omega | decide | (simp;done) | (simp <;> omega))) ?_;rintro ⟨g2,rfl⟩;by_cases hc:j<b
   ·skip
    refine rr ?_;exact ro hK2 e' ⟨by omega,by rw [← hdec];simp only [decD,hb0];rw [if_pos hc]⟩ (hE:=by rw [show (((e'+1:Nat):Int)-1)=(e':Int) by omega];repeat (first | exact trivial | refine ⟨rfl,?_⟩))
   ·have hdd:decD s.begs j (e'+1)=e'+1:=by simp only [decD,hb0];rw [if_neg hc]
    by_cases hc:e.1=name
    ·skip
     refine rr ?_;exact en ⟨ta,tc,ca,cc,pa,pc,some ⟨g1,0,none⟩,nc,some ⟨g2,0,none⟩,bc,ea,ec,ia,ic⟩ rfl (hv:=by rw [← hfind];simp only [findG,hg0,hc,if_true,← hdec,hdd];rfl)
    ·skip
     refine rr ?_;exact ro hK1 (j,e'+1) ⟨by dsimp only;omega,by dsimp only;omega,by rw [← hfind];simp only [findG,hg0,if_neg hc,← hdec,hdd]⟩
 ·
  have hk0:k=0:=by omega
  subst hk0;refine rr ?_;intro b3 _;refine rr ?_;exact en ⟨ta,tc,ca,cc,pa,pc,na,nc,ba,bc,ea,ec,ia,ic⟩ rfl (hv:=by rw [← hfind];rfl)
end
section
variable {TA:Addr} {L:List (Sc.Tk×Nat)}
theorem defineC (c:Nat) (s:CS) (x:Ad) (name:List UInt8) (t:Th) (hn:s.ents.length≤1000000000000) (hb:s.begs.length≤1000000000000) (hbs:∀ x∈s.begs,x≤1000000000000) (hx:OkX TA L s x):FnC Tryz.prog 213 [tP c,.string (Sc.bs name),thG t] (cmH c s x) [] (fun _=>.bool (mDefOk name s)) (fun y:Ad=>cmH c (mDef name t s) y) (fun y=>OkX TA L (mDef name t s) y):=by
 have h2:=findC c s x (Sc.bs name) hn hb hbs;unfold mDef mDefOk mFind;generalize findG s.ents s.begs (Sc.bs name) s.ents.length s.begs.length=r at *;obtain ⟨rt,rd,rok⟩:=r;have h3:=depthC c s x;by_cases hk0:s.begs.length=0
 ·have hz:(s.begs.length != 0)=false:=by simpa using hk0
  have hz2:(s.begs.length:Int)=0:=by omega
  simp only [hz,Bool.false_and,if_neg (show ¬ (false=true) by decide)];unfold cmH csC tP thG at *;refine fn_intro Tryz.func213 Tryz.ntmps213 rfl rfl rfl (fun w0=>?_);refine rrs ?_;intro b1 _;refine rr ?_;refine cl (h3) ?_;intro _ hy;try simp only [Sx.ap1,Sx.ap2,Sx.ap3]
  cases hy;refine rr ?_;exact en x hx
 ·have hz:(s.begs.length != 0)=true:=by simpa using hk0
  have hz2:¬ ((s.begs.length:Int)=0):=by omega
  by_cases hok:rok=true∧rd=s.begs.length
  ·obtain ⟨rfl,hrd⟩:=hok;have hrd2:(rd:Int)=s.begs.length:=by omega
   have hc:((s.begs.length != 0) && !(true && decide (rd=s.begs.length)))=false:=by rw [hz,hrd];simp
   simp only [hc,if_neg (show ¬ (false=true) by decide)];unfold cmH csC tP thG at *;dsimp only at h2;refine fn_intro Tryz.func213 Tryz.ntmps213 rfl rfl rfl (fun w0=>?_);refine rrs ?_;intro b1 _;refine rr ?_;refine cl (h3) ?_;intro _ hy;try simp only [Sx.ap1,Sx.ap2,Sx.ap3]
   cases hy;refine rr ?_;refine cl (h2) ?_;intro _ hy;try simp only [Sx.ap1,Sx.ap2,Sx.ap3]
   cases hy;refine rr ?_;intro b3 _;refine rr ?_;refine cl (h3) ?_;intro _ hy;try simp only [Sx.ap1,Sx.ap2,Sx.ap3]
   cases hy;refine rr ?_;exact en x hx
  ·have hc:((s.begs.length != 0) && !(rok && decide (rd=s.begs.length)))=true:=by
    rw [hz];cases rok with
    | false=>simp
    | true=>simp at hok ⊢;exact hok
   simp only [hc,if_true];unfold cmH csC tP thG at *;dsimp only at h2 ⊢;rw [len_snoc,enC_snoc];cases rok with
   | false=>
    refine fn_intro Tryz.func213 Tryz.ntmps213 rfl rfl rfl (fun w0=>?_);refine rrs ?_;intro b1 _;refine rr ?_;refine cl (h3) ?_;intro _ hy;try simp only [Sx.ap1,Sx.ap2,Sx.ap3]
    cases hy;refine rr ?_;refine cl (h2) ?_;intro _ hy;try simp only [Sx.ap1,Sx.ap2,Sx.ap3]
    cases hy;refine rr ?_;intro b3 _;refine rr ?_;refine dr [0,1,2,3,4,5,6,7,8,9,10,11,12] [4,6] [1,8] ?_;refine rr ?_;refine rr ?_;intro b2 _;refine rr ?_;rintro ⟨a1,c1⟩ ⟨hc1,_⟩;refine rr ?_;exact en { x with na:=a1,nc:=c1 } (hx.same rfl rfl rfl)
   | true=>
    have hrd2:¬ ((rd:Int)=s.begs.length):=by simp at hok;omega
    refine fn_intro Tryz.func213 Tryz.ntmps213 rfl rfl rfl (fun w0=>?_);refine rrs ?_;intro b1 _;refine rr ?_;refine cl (h3) ?_;intro _ hy;try simp only [Sx.ap1,Sx.ap2,Sx.ap3]
    cases hy;refine rr ?_;refine cl (h2) ?_;intro _ hy;try simp only [Sx.ap1,Sx.ap2,Sx.ap3]
    cases hy;refine rr ?_;intro b3 _;refine rr ?_;refine cl (h3) ?_;intro _ hy;try simp only [Sx.ap1,Sx.ap2,Sx.ap3]
    cases hy;refine rr ?_;refine dr [0,1,2,3,4,5,6,7,8,9,10,11,12] [4,6] [0,8] ?_;refine rr ?_;refine rr ?_;intro b2 _;refine rr ?_;rintro ⟨a1,c1⟩ ⟨hc1,_⟩;refine rr ?_;exact en { x with na:=a1,nc:=c1 } (hx.same rfl rfl rfl)
end
section
variable {TA:Addr} {L:List (Sc.Tk×Nat)}
theorem enC_one (l:List (ByteArray×Th)):∀ u∈enC l,u.oneCell'=true:=by
 intro u hu;simp only [enC,List.mem_flatMap] at hu;obtain ⟨e,_,hu⟩:=hu;simp only [enV,List.mem_cons,List.not_mem_nil,or_false] at hu;rcases hu with rfl | rfl | rfl | rfl | rfl <;> rfl
theorem enC_take:∀ (l:List (ByteArray×Th)) (k:Nat),(enC l).take (k*5)=enC (l.take k)
 | [],k=>by simp [enC]
 | e::l,0=>by simp [enC]
 | e::l,k+1=>by
  have:=enC_take l k;simp only [enC,List.flatMap_cons,List.take_succ_cons] at this ⊢;rw [show (k+1)*5=k*5+1+1+1+1+1 by omega];simp [enV,this]
theorem natC_take (l:List Nat) (k:Nat):(natC l).take (k*1)=natC (l.take k):=by simp [natC,List.map_take]
theorem closeC (c:Nat) (s:CS) (x:Ad) (hn:s.ents.length≤1000000000000) (hb:s.begs.length≤1000000000000) (hbs:∀ x∈s.begs,x≤s.ents.length) (hx:OkX TA L s x):FnC Tryz.prog 176 [tP c] (cmH c s x) [] (fun _=>.bool (decide (s.begs.length≠0))) (fun y:Ad=>cmH c (mClose s) y) (fun y=>OkX TA L (mClose s) y):=by
 unfold mClose;by_cases hk0:s.begs.length=0
 ·have hz2:(s.begs.length:Int)=0:=by omega
  simp only [if_pos hk0];unfold cmH csC tP;refine fn_intro Tryz.func176 Tryz.ntmps176 rfl rfl rfl (fun w0=>?_);refine rrs ?_;exact en x hx (hv:=by simp [packR,hk0])
 ·simp only [if_neg hk0];have hz2:¬ ((s.begs.length:Int)=0):=by omega
  have hone:=enC_one s.ents;have hel:=enC_len s.ents;have hnl:=natC_len s.begs;obtain ⟨b,hb0⟩:=some_at (l:=s.begs) (k:=s.begs.length-1) (by omega);have hbl:=hbs b (List.mem_of_getElem? hb0);have hgl:s.begs.getLastD 0=b:=by rw [List.getLastD_eq_getLast?,List.getLast?_eq_getElem?,hb0];rfl
  have hb2:(natC s.begs)[0+((s.begs.length:Int)-1).toNat*1]? = some (.int .i64 (b:Int)):=by
   rw [show 0+((s.begs.length:Int)-1).toNat*1=s.begs.length-1 by omega];exact natC_get hb0
  have hdl:s.begs.dropLast=s.begs.take (s.begs.length-1):=List.dropLast_eq_take;have hl1:(s.ents.take b).length=b:=by rw [List.length_take];omega
  have hl2:(s.begs.take (s.begs.length-1)).length=s.begs.length-1:=by rw [List.length_take];omega
  obtain ⟨ta,tc,ca,cc,pa,pc,na,nc,ba,bc,ea,ec,ia,ic⟩:=x;unfold cmH csC tP;dsimp only;rw [hgl,hdl,hl1,hl2];refine fn_intro Tryz.func176 Tryz.ntmps176 rfl rfl rfl (fun w0=>?_);try simp only [Sx.ap1,Sx.ap2,Sx.ap3]
  refine w_use (fun w hw=>(hw.pick 4 rfl).row_some (by first | omega | decide | (simp;done) | (simp <;> omega))) ?_;rintro ⟨g1,rfl⟩;refine w_use (fun w hw=>(hw.pick 3 rfl).row_cap) fun hcap=>?_
  refine w_use (fun w hw=>(hw.pick 4 rfl).row_cap) fun hcb=>?_
  refine rr ?_;refine w_turn (fun w hw=>hw.row_nil 274 5) ?_;refine dr [0,1,2,3,4,5,6,7,8,9,10,11,12,13,14,15,16,17] [4,8,12] [1,4,5] ?_;refine rr ?_;rintro ⟨a1,c1⟩ hc1;dsimp only at hc1 ⊢;have e1:0+((b:Int)).toNat=b:=by omega
  have e2:([]++(enC s.ents).take (((b:Int)).toNat*5))=enC (s.ents.take b):=by simp [enC_take]
  rw [e1] at hc1;rw [e1,e2];refine rr ?_;refine w_turn (fun w hw=>by have:=(hw.pick 5 rfl).row_shrink (m:=s.begs.length-1) (by omega);rw [natC_take] at this;exact this) ?_;rw [show ((s.begs.length:Int)-1).toNat=s.begs.length-1 by omega];exact en ⟨ta,tc,ca,cc,pa,pc,a1,c1,some ⟨g1,0,none⟩,bc,ea,ec,ia,ic⟩ (hx.same rfl rfl rfl) (hv:=by simp [packR,hk0])
theorem errDefC (c:Nat) (s:CS) (x:Ad) (name:List UInt8) (pl:Int) (t:Th) (hn:s.ents.length≤1000000000000) (hb:s.begs.length≤1000000000000) (hbs:∀ x∈s.begs,x≤1000000000000) (hx:OkX TA L s x):FnC Tryz.prog 167 [cP c,.string (Sc.bs name),.int .i64 pl,thG t] (cmH c s x) [] (fun _=>.tuple #[]) (fun y:Ad=>cmH c (mDefine name pl t s) y) (fun y=>OkX TA L (mDefine name pl t s) y):=by
 unfold mDefine;by_cases he:s.e=0
 ·simp only [if_pos he];have h1:=defineC (TA:=TA) (L:=L) c s x name t hn hb hbs hx;by_cases hd:mDefOk name s=true
  ·simp only [if_pos hd];rw [hd] at h1;generalize mDef name t s=s1 at *;unfold cmH csC cP tP thG at *;refine fn_intro Tryz.func167 Tryz.ntmps167 rfl rfl rfl (fun w0=>?_);refine rrs ?_;intro b1 _;refine rr ?_;refine dx [0,1,2,3,4,5,6,7,8,9,10,11,12,13] [] [] ?_;refine rr ?_;refine cle (h1) ?_;intro y hy;refine rrs ?_;exact en y hy
  ·simp only [if_neg hd];have hd2:mDef name t s=s:=by unfold mDef;rw [if_neg hd]
   rw [show mDefOk name s=false by simpa using hd,hd2] at h1;have h2:=fun y=>stopC (TA:=TA) (L:=L) c s y 6 pl
   generalize mStop 6 pl s=s1 at *;unfold cmH csC cP tP thG at *;refine fn_intro Tryz.func167 Tryz.ntmps167 rfl rfl rfl (fun w0=>?_);refine rrs ?_;intro b1 _;refine rr ?_;refine dx [0,1,2,3,4,5,6,7,8,9,10,11,12,13] [] [] ?_;refine rr ?_;refine cle (h1) ?_;intro y hy;refine rrs ?_;refine cl (h2 y) ?_;intro z hz;refine rrs ?_;exact en z hz
 ·simp only [if_neg he];unfold cmH csC cP thG at *;refine fn_intro Tryz.func167 Tryz.ntmps167 rfl rfl rfl (fun w0=>?_);refine rrs ?_;intro b1 _;refine rr ?_;refine dx [0,1,2,3,4,5,6,7,8,9,10,11,12,13] [] [] ?_;refine rr ?_;exact en x hx
theorem errFindC (c:Nat) (s:CS) (x:Ad) (name:List UInt8) (pl:Int) (hn:s.ents.length≤1000000000000) (hb:s.begs.length≤1000000000000) (hbs:∀ x∈s.begs,x≤1000000000000) (hx:OkX TA L s x):FnC Tryz.prog 219 [cP c,.string (Sc.bs name),.int .i64 pl] (cmH c s x) [] (fun _=>thG (mLook name pl s).1) (fun y:Ad=>cmH c (mLook name pl s).2 y) (fun y=>OkX TA L (mLook name pl s).2 y):=by
 have h1:=findC c s x (Sc.bs name) hn hb hbs;unfold mLook mFind;generalize findG s.ents s.begs (Sc.bs name) s.ents.length s.begs.length=r at *;obtain ⟨rt,rd,rok⟩:=r;cases rok with
 | true=>
  simp only [if_true];unfold cmH csC cP tP thG at *;dsimp only at *;refine fn_intro Tryz.func219 Tryz.ntmps219 rfl rfl rfl (fun w0=>?_);refine rrs ?_;intro b0 _;refine rr ?_;refine cl (h1) ?_;intro _ hy;try simp only [Sx.ap1,Sx.ap2,Sx.ap3]
  cases hy;refine rr ?_;intro b1 _;refine rr ?_;exact en x hx
 | false=>
  simp only [if_neg (show ¬ (false=true) by decide)];have h2:=stopC (TA:=TA) (L:=L) c s x 5 pl;generalize mStop 5 pl s=s1 at *;unfold cmH csC cP tP thG at *;dsimp only at *;refine fn_intro Tryz.func219 Tryz.ntmps219 rfl rfl rfl (fun w0=>?_);refine rrs ?_;intro b0 _;refine rr ?_;refine cl (h1) ?_;intro _ hy;try simp only [Sx.ap1,Sx.ap2,Sx.ap3]
  cases hy;refine rr ?_;intro b1 _;refine rr ?_;refine cl (h2) ?_;intro z hz;refine rrs ?_;exact en z hz
end
section
variable {TA:Addr} {L:List (Sc.Tk×Nat)}
theorem regC (c:Nat) (s:CS) (x:Ad) (pl:Int) (ht:s.taken≤8) (hx:OkX TA L s x):FnC Tryz.prog 268 [cP c,.int .i64 pl] (cmH c s x) [] (fun _=>.int .i64 (mReg pl s).1) (fun y:Ad=>cmH c (mReg pl s).2 y) (fun y=>OkX TA L (mReg pl s).2 y):=by
 have h1:=takeC (TA:=TA) (L:=L) c s x ht hx;unfold mReg;by_cases h:s.taken=8
 ·have hm:mTake s=s:=by unfold mTake;rw [if_pos h]
  have h2:=fun y=>stopC (TA:=TA) (L:=L) c s y 8 pl
  simp only [h,if_true,ne_eq,not_true,decide_false] at h1 ⊢;rw [hm] at h1;generalize mStop 8 pl s=s1 at *;unfold cmH csC cP bP at *;rw [h] at *;refine fn_intro Tryz.func268 Tryz.ntmps268 rfl rfl rfl (fun w0=>?_);refine rrs ?_;refine cl (h1) ?_;intro y hy;refine rrs ?_;refine cl (h2 y) ?_;intro z hz;refine rrs ?_;exact en z hz
 ·simp only [h,if_false,ne_eq,not_false_eq_true,decide_true] at h1 ⊢;generalize mTake s=s1 at *;unfold cmH csC cP bP at *;refine fn_intro Tryz.func268 Tryz.ntmps268 rfl rfl rfl (fun w0=>?_);refine rrs ?_;refine cl (h1) ?_;intro y hy;refine rrs ?_;exact en y hy
def Does (TA:Addr) (L:List (Sc.Tk×Nat)) (c F:Nat) (f:CS→Int×CS) (s:CS):Prop:=∀ x,OkX TA L s x→FnC Tryz.prog F [cP c] (cmH c s x) [tkB TA L,spaceV] (fun _=>.int .i64 (f s).1) (fun y:Ad=>cmH c (f s).2 y) (fun y=>OkX TA L (f s).2 y)
def clo (F c:Nat):Value:=.func (.func F) #[cP c] #[]
theorem uh {A B:Prop} (h:A) (k:A→B:=by
 intro hh;try unfold cmH csC at hh
 try unfold cmH at hh
 try unfold cP at hh
 try unfold bP at hh
 try unfold tP at hh
 try unfold inG at hh
 try unfold thG at hh
 try unfold clo at hh
 exact hh):B:=k h
theorem ug {Q G:Prop} (q:Q) (k:Hold Q→G:=by
 intro hdone;try unfold cmH csC
 try unfold cmH
 try unfold cP
 try unfold bP
 try unfold tP
 try unfold inG
 try unfold thG
 try unfold clo
 exact hdone.out):G:=k ⟨q⟩
theorem innerC (c F:Nat) (f:CS→Int×CS) (s:CS) (x:Ad) (pl:Int) (h1:s.fac≤1000000000000) (h2:s.fac+1≤16→1≤(f { s with fac:=s.fac+1 }).2.fac∧(f { s with fac:=s.fac+1 }).2.fac≤1000000000000) (hf:s.fac+1≤16→Does TA L c F f { s with fac:=s.fac+1 }) (hx:OkX TA L s x):FnC Tryz.prog 257 [cP c,.int .i64 pl,clo F c] (cmH c s x) [tkB TA L,spaceV] (fun _=>.int .i64 (mInner pl f s).1) (fun y:Ad=>cmH c (mInner pl f s).2 y) (fun y=>OkX TA L (mInner pl f s).2 y):=by
 unfold mInner;have hc:((s.fac+1:Nat):Int)=(s.fac:Int)+1:=by omega
 by_cases h:s.fac+1>16
 ·simp only [if_pos h];have h3:=fun y=>stopC (TA:=TA) (L:=L) c { s with fac:=s.fac+1 } y 8 pl
  generalize mStop 8 pl { s with fac:=s.fac+1 }=s1 at *;unfold cmH csC cP clo at *;dsimp only at *;rw [hc] at h3;refine fn_intro Tryz.func257 Tryz.ntmps257 rfl rfl rfl (fun w0=>?_);refine rrs ?_;refine cl (h3 x) ?_;intro y hy;refine rrs ?_;exact en y hy
 ·simp only [if_neg h];have h3:=hf (by omega) x (hx.same rfl rfl rfl);have h4:=h2 (by omega);generalize f { s with fac:=s.fac+1 }=r at *;obtain ⟨rn,rs⟩:=r;dsimp only at *;have hc2:((rs.fac-1:Nat):Int)=(rs.fac:Int)-1:=by omega
  unfold cmH csC cP clo at *;dsimp only at *;rw [hc] at h3;rw [hc2];refine fn_intro Tryz.func257 Tryz.ntmps257 rfl rfl rfl (fun w0=>?_);refine rrs ?_;refine clv (h3) ?_;intro y hy;refine rrs ?_;exact en y (hy.same rfl rfl rfl)
theorem loadC (c:Nat) (s:CS) (x:Ad) (t:Th) (r:Int) (hn:s.code.length≤1000000000000) (hp:s.pats.length≤1000000000000) (hx:OkX TA L s x):FnC Tryz.prog 271 [cP c,thG t,.int .i64 r] (cmH c s x) [] (fun _=>.tuple #[]) (fun y:Ad=>cmH c (mLoad t r s) y) (fun y=>OkX TA L (mLoad t r s) y):=by
 have h1:=putC (TA:=TA) (L:=L) c s x ⟨12,r,30,0,t.pl⟩ hn hx;have h2:=markC (TA:=TA) (L:=L) c s x ⟨12,r,0,0,t.pl⟩ 1 0 hn hp hx;unfold mLoad;by_cases h:t.kind=2
 ·simp only [if_pos h];unfold cmH csC cP bP inG thG at *;refine fn_intro Tryz.func271 Tryz.ntmps271 rfl rfl rfl (fun w0=>?_);refine rrs ?_;intro b1 _;refine rr ?_;refine dx [0,1,2,3,4,5,6,7] [] [] ?_;refine rr ?_;refine cle (h1) ?_;intro y hy;refine rrs ?_;exact en y hy
 ·simp only [if_neg h];unfold cmH csC cP bP inG thG at *;refine fn_intro Tryz.func271 Tryz.ntmps271 rfl rfl rfl (fun w0=>?_);refine rrs ?_;intro b1 _;refine rr ?_;refine dx [0,1,2,3,4,5,6,7] [] [] ?_;refine rr ?_;refine cle (h2) ?_;intro y hy;refine rrs ?_;exact en y hy
end
section
variable {TA:Addr} {L:List (Sc.Tk×Nat)}
theorem storeC (c:Nat) (s:CS) (x:Ad) (t:Th) (r:Int) (hn:s.code.length≤1000000000000) (hp:s.pats.length≤1000000000000) (hx:OkX TA L s x):FnC Tryz.prog 220 [cP c,thG t,.int .i64 r] (cmH c s x) [] (fun _=>.tuple #[]) (fun y:Ad=>cmH c (mStore t r s) y) (fun y=>OkX TA L (mStore t r s) y):=by
 have h1:=putC (TA:=TA) (L:=L) c s x ⟨13,r,30,0,t.pl⟩ hn hx;have h2:=markC (TA:=TA) (L:=L) c s x ⟨13,r,0,0,t.pl⟩ 1 0 hn hp hx;unfold mStore;by_cases h:t.kind=2
 ·simp only [if_pos h];unfold cmH csC cP bP inG thG at *;refine fn_intro Tryz.func220 Tryz.ntmps220 rfl rfl rfl (fun w0=>?_);refine rrs ?_;intro b1 _;refine rr ?_;refine dx [0,1,2,3,4,5,6,7] [] [] ?_;refine rr ?_;refine cle (h1) ?_;intro y hy;refine rrs ?_;exact en y hy
 ·simp only [if_neg h];unfold cmH csC cP bP inG thG at *;refine fn_intro Tryz.func220 Tryz.ntmps220 rfl rfl rfl (fun w0=>?_);refine rrs ?_;intro b1 _;refine rr ?_;refine dx [0,1,2,3,4,5,6,7] [] [] ?_;refine rr ?_;refine cle (h2) ?_;intro y hy;refine rrs ?_;exact en y hy
structure Gd (s:CS):Prop where
 tk:s.taken≤8
 bg:∀ b∈s.begs,b≤s.ents.length
 nm:∀ t∈s.toks,0≤t.1.num∧t.1.num≤32767
theorem Gd.ex {k:Int} {s s1:CS} (h:Gd s) (e:Ex k s s1):Gd s1:=⟨e.tk h.tk,by rw [e.en,e.bg];exact h.bg,fun t ht=>h.nm t (e.nm t ht)⟩
theorem wt_code {s:CS} {k:Int} (h:wt s≤k):(s.code.length:Int)≤k:=by unfold wt at h;omega
theorem wt_pats {s:CS} {k:Int} (h:wt s≤k):(s.pats.length:Int)≤k:=by unfold wt at h;omega
theorem wt_ents {s:CS} {k:Int} (h:wt s≤k):(s.ents.length:Int)≤k:=by unfold wt at h;omega
theorem wt_begs {s:CS} {k:Int} (h:wt s≤k):(s.begs.length:Int)≤k:=by unfold wt at h;omega
theorem wt_fac {s:CS} {k:Int} (h:wt s≤k):(s.fac:Int)≤k:=by unfold wt at h;omega
def DoesN (TA:Addr) (L:List (Sc.Tk×Nat)) (c F:Nat) (f:CS→Int×CS) (n:Nat):Prop:=∀ s,s.toks.length<n→Gd s→wt s≤1000000000000→Does TA L c F f s
theorem innerN (c F:Nat) (f:CS→Int×CS) (n:Nat) (hf:DoesN TA L c F f n) (he:∀ s,Ex 0 s (f s).2) (s:CS) (x:Ad) (pl:Int) (hn:s.toks.length<n) (hg:Gd s) (hw:wt s+1≤1000000000000) (hx:OkX TA L s x):FnC Tryz.prog 257 [cP c,.int .i64 pl,clo F c] (cmH c s x) [tkB TA L,spaceV] (fun _=>.int .i64 (mInner pl f s).1) (fun y:Ad=>cmH c (mInner pl f s).2 y) (fun y=>OkX TA L (mInner pl f s).2 y):=by
 have h0:=ex_fac s;have h1:=he { s with fac:=s.fac+1 };have h2:=h0.w;have h3:=h0.tr (k:=1) h1;have h4:=wt_fac (show wt s≤1000000000000 by omega);have h5:=wt_fac (show wt (f { s with fac:=s.fac+1 }).2≤1000000000000 by have:=h3.w;omega);have h6:=h1.fc;dsimp only at h6;exact innerC c F f s x pl (by omega) (fun _=>⟨by omega,by omega⟩) (fun _=>hf _ (by exact hn) (hg.ex h0) (by omega)) hx
theorem indexC (c:Nat) (ex:CS→Int×CS) (n:Nat) (hf:DoesN TA L c 179 ex n) (he:∀ s,Ex 0 s (ex s).2) (t:Th) (s:CS) (x:Ad) (hn:s.toks.length<n) (hg:Gd s) (hw:wt s+2≤1000000000000) (hx:OkX TA L s x):FnC Tryz.prog 240 [cP c,thG t] (cmH c s x) [tkB TA L,spaceV] (fun _=>.int .i64 (mIndex ex t s).1) (fun y:Ad=>cmH c (mIndex ex t s).2 y) (fun y=>OkX TA L (mIndex ex t s).2 y):=by
 have h1:=hereC c s x hx;have h2:=mustC c s x [91] hx;have e2:=ex_must [91] s;unfold mIndex;dsimp only;generalize mMust [91] s=s1 at *;by_cases h:s1.e=0
 ·simp only [if_neg (show ¬ (s1.e≠0) by simpa using h)];have h3:=fun y hy=>innerN c _ ex n hf he s1 y (mHere s) (by have:=e2.ln;omega) (hg.ex e2) (by have:=e2.w;omega) hy
  have e3:=e2.tr (k:=1) (ex_inner (mHere s) s1 (he _));generalize mInner (mHere s) ex s1=r at *;obtain ⟨rn,rs⟩:=r;have h4:=fun y hy=>mustC (TA:=TA) (L:=L) c rs y [93] hy
  have e4:=e3.tr (k:=1) (ex_must [93] rs);dsimp only at *;generalize mMust [93] rs=s3 at *;have h5:=fun y hy=>putC (TA:=TA) (L:=L) c s3 y ⟨14,rn,0,0,t.size⟩ (by have:=wt_code (Int.le_refl (wt s3));have:=e4.w;omega) hy
  generalize mPut ⟨14,rn,0,0,t.size⟩ s3=s4 at *;unfold cmH csC cP bP inG thG clo at *;refine fn_intro Tryz.func240 Tryz.ntmps240 rfl rfl rfl (fun w0=>?_);refine rrs ?_;intro b1 _;refine rr ?_;refine cl (h1) ?_;intro z hz;try simp only [Sx.ap1,Sx.ap2,Sx.ap3]
  cases hz;refine rr ?_;refine cl (h2) ?_;intro y hy;refine rrs ?_;refine cl (h3 y hy) ?_;intro z hz;refine rrs ?_;refine cl (h4 z hz) ?_;intro u hu;refine rrs ?_;refine dx [0,1,2,3,4,5,6,7] [] [] ?_;refine rr ?_;refine cle (h5 u hu) ?_;intro v hv;refine rrs ?_;exact en v hv
 ·simp only [if_pos (show s1.e≠0 by simpa using h)];unfold cmH csC cP at *;refine fn_intro Tryz.func240 Tryz.ntmps240 rfl rfl rfl (fun w0=>?_);refine rrs ?_;intro b1 _;refine rr ?_;refine cl (h1) ?_;intro z hz;try simp only [Sx.ap1,Sx.ap2,Sx.ap3]
  cases hz;refine rr ?_;refine cl (h2) ?_;intro y hy;refine rrs ?_;exact en y hy
theorem valueC (c:Nat) (ex:CS→Int×CS) (n:Nat) (hf:DoesN TA L c 179 ex n) (he:∀ s,Ex 0 s (ex s).2) (s:CS) (x:Ad) (hm:mNamed s=true) (hn:s.toks.length≤n) (hg:Gd s) (hw:wt s≤1000000000000) (hx:OkX TA L s x):FnC Tryz.prog 267 [cP c] (cmH c s x) [tkB TA L,spaceV] (fun _=>.int .i64 (mValue ex s).1) (fun y:Ad=>cmH c (mValue ex s).2 y) (fun y=>OkX TA L (mValue ex s).2 y):=by
 have h1:=nameC c s x hx;have e1:=ex_named hm
 have hl:(mName s).2.toks.length<n:=by
  have h0:s.toks.length≠0:=fun h=>named_ne hm (List.length_eq_zero_iff.mp h)
  unfold mName;rw [if_pos hm];simp only [mTail,List.length_tail];omega
 unfold mValue;dsimp only;generalize mHere s=pl at *;generalize mName s=a at *;obtain ⟨an,s1⟩:=a;dsimp only at *;by_cases h:s1.e=0
 ·simp only [if_neg (show ¬ (s1.e≠0) by simpa using h)];have g1:=hg.ex e1;have w1:=e1.w;have wb:=wt_begs (Int.le_refl (wt s1));have wn:=wt_ents (Int.le_refl (wt s1));have h2:=fun y hy=>errFindC (TA:=TA) (L:=L) c s1 y an pl (by omega) (by omega) (fun b hb=>by have:=g1.bg b hb;omega) hy
  have e2:=e1.tr (k := -100) (ex_look an pl s1);have l2:=(ex_look an pl s1).ln;generalize mLook an pl s1=b at *;obtain ⟨t,s2⟩:=b;dsimp only at *;have g2:=hg.ex e2;have w2:=e2.w;by_cases h':s2.e=0
  ·simp only [if_neg (show ¬ (s2.e≠0) by simpa using h')];by_cases hk:t.kind=3∨t.kind=4
   ·simp only [if_pos hk];have h3:=fun y=>stopC (TA:=TA) (L:=L) c s2 y 7 pl
    generalize mStop 7 pl s2=s3 at *;unfold cmH csC cP thG at *;by_cases hk3:t.kind=3
    ·skip
     refine fn_intro Tryz.func267 Tryz.ntmps267 rfl rfl rfl (fun w0=>?_);refine rrs ?_;refine cl (h1) ?_;intro y hy;refine rrs ?_;refine cl (h2 y hy) ?_;intro z hz;refine rrs ?_;intro b1 _;refine rr ?_;refine cl (h3 z) ?_;intro u hu;refine rrs ?_;exact en u hu
    ·have hk4:t.kind=4:=hk.resolve_left hk3;refine fn_intro Tryz.func267 Tryz.ntmps267 rfl rfl rfl (fun w0=>?_);refine rrs ?_;refine cl (h1) ?_;intro y hy;refine rrs ?_;refine cl (h2 y hy) ?_;intro z hz;refine rrs ?_;intro b1 _;refine rr ?_;refine cl (h3 z) ?_;intro u hu;refine rrs ?_;exact en u hu
   ·simp only [if_neg hk];have hk3:¬ t.kind=3:=fun h=>hk (.inl h)
    have hk4:¬ t.kind=4:=fun h=>hk (.inr h)
    by_cases hk1:t.kind=1
    ·simp only [if_pos hk1];have h3:=fun y hy=>indexC (TA:=TA) (L:=L) c ex n hf he t s2 y (by omega) g2 (by omega) hy
     have e3:=e2.tr (k := -98) (ex_index he t s2);have w3:=e3.w;generalize mIndex ex t s2=r at *;obtain ⟨rn,s3⟩:=r;dsimp only at *;have h4:=fun y hy=>markC (TA:=TA) (L:=L) c s3 y ⟨12,rn,rn,0,t.pl⟩ 1 0 (by have:=wt_code (Int.le_refl (wt s3));omega) (by have:=wt_pats (Int.le_refl (wt s3));omega) hy
     generalize mMark ⟨12,rn,rn,0,t.pl⟩ 1 0 s3=s4 at *;unfold cmH csC cP bP inG thG at *;refine fn_intro Tryz.func267 Tryz.ntmps267 rfl rfl rfl (fun w0=>?_);refine rrs ?_;refine cl (h1) ?_;intro y hy;refine rrs ?_;refine cl (h2 y hy) ?_;intro z hz;refine rrs ?_;intro b1 _;refine rr ?_;refine cl (h3 z hz) ?_;intro u hu;refine rrs ?_;refine dx [0,1,2,3,4,5,6,7,8] [] [] ?_;refine rr ?_;refine cle (h4 u hu) ?_;intro v hv;refine rrs ?_;exact en v hv
    ·simp only [if_neg hk1];have h3:=fun y hy=>regC (TA:=TA) (L:=L) c s2 y pl g2.tk hy
     have e3:=e2.tr (k := -100) (ex_reg pl s2);have w3:=e3.w;generalize mReg pl s2=r at *;obtain ⟨rn,s3⟩:=r;dsimp only at *;have h4:=fun y hy=>loadC (TA:=TA) (L:=L) c s3 y t rn (by have:=wt_code (Int.le_refl (wt s3));omega) (by have:=wt_pats (Int.le_refl (wt s3));omega) hy
     generalize mLoad t rn s3=s4 at *;try unfold cmH csC at *
     try unfold cP at *
     try unfold bP at *
     try unfold tP at *
     try unfold inG at *
     try unfold thG at *
     try unfold clo at *
     refine fn_intro Tryz.func267 Tryz.ntmps267 rfl rfl rfl (fun w0=>?_);refine rrs ?_;refine cl (h1) ?_;intro y hy;refine rrs ?_;refine cl (h2 y hy) ?_;intro z hz;refine rrs ?_;intro b1 _;refine rr ?_;refine cl (h3 z hz) ?_;intro u hu;refine rrs ?_;refine cl (h4 u hu) ?_;intro v hv;refine rrs ?_;exact en v hv
  ·simp only [if_pos (show s2.e≠0 by simpa using h')];unfold cmH csC cP thG at *;refine fn_intro Tryz.func267 Tryz.ntmps267 rfl rfl rfl (fun w0=>?_);refine rrs ?_;refine cl (h1) ?_;intro y hy;refine rrs ?_;refine cl (h2 y hy) ?_;intro z hz;refine rrs ?_;intro b1 _;refine rr ?_;exact en z hz
 ·simp only [if_pos (show s1.e≠0 by simpa using h)];unfold cmH csC cP at *;refine fn_intro Tryz.func267 Tryz.ntmps267 rfl rfl rfl (fun w0=>?_);refine rrs ?_;refine cl (h1) ?_;intro y hy;refine rrs ?_;exact en y hy
end
section
variable {TA:Addr} {L:List (Sc.Tk×Nat)}
theorem has_no {w:List UInt8} {s:CS} (h:¬ mSees w s=true):mHas w s=s:=by unfold mHas;rw [if_neg h]
theorem has_yes {w:List UInt8} {s:CS} (h:mSees w s=true):mHas w s=mTail s:=by unfold mHas;rw [if_pos h]
theorem noC (c:Nat) (s:CS) (x:Ad) (w:List UInt8) (hx:OkX TA L s x) (h:¬ mSees w s=true):FnC Tryz.prog 60 [cP c,.string (Sc.bs w)] (cmH c s x) [tkB TA L,spaceV] (fun _=>.bool false) (fun y:Ad=>cmH c s y) (fun y=>OkX TA L s y):=by
 have h1:=hasC c s x w hx;rw [has_no h,show mSees w s=false by simpa using h] at h1;exact h1
theorem yesC (c:Nat) (s:CS) (x:Ad) (w:List UInt8) (hx:OkX TA L s x) (h:mSees w s=true):FnC Tryz.prog 60 [cP c,.string (Sc.bs w)] (cmH c s x) [tkB TA L,spaceV] (fun _=>.bool true) (fun y:Ad=>cmH c (mTail s) y) (fun y=>OkX TA L (mTail s) y):=by
 have h1:=hasC c s x w hx;rw [has_yes h,h] at h1;exact h1
theorem tail_lt {s:CS} (h:s.toks≠[]):(mTail s).toks.length<s.toks.length:=by
 obtain ⟨t,r,ht⟩:=List.exists_cons_of_ne_nil h;simp [mTail,ht]
theorem factorC (c:Nat) (ex fa:CS→Int×CS) (n:Nat) (hf:DoesN TA L c 179 ex n) (he:∀ s,Ex 0 s (ex s).2) (hfa:DoesN TA L c 256 fa n) (hea:∀ s,Ex 0 s (fa s).2):DoesN TA L c 256 (mFactorB ex fa) (n+1):=by
 intro s hn hg hw x hx;have h0:=hereC c s x hx;unfold mFactorB;dsimp only;by_cases c1:mSees [40] s=true
 ·simp only [if_pos c1];have h1:=yesC c s x [40] hx c1;have e1:=ex_sees c1;have l1:=tail_lt (sees_ne c1);generalize mTail s=s1 at *;have h2:=fun y hy=>innerN (TA:=TA) (L:=L) c _ ex n hf he s1 y (mHere s) (by omega) (hg.ex e1) (by have:=e1.w;omega) hy
  generalize mInner (mHere s) ex s1=r at *;obtain ⟨rn,s2⟩:=r;dsimp only at *;have h3:=fun y hy=>mustC (TA:=TA) (L:=L) c s2 y [41] hy
  generalize mMust [41] s2=s3 at *;try unfold cmH csC at *
  try unfold cP at *
  try unfold bP at *
  try unfold tP at *
  try unfold inG at *
  try unfold thG at *
  try unfold clo at *
  refine fn_intro Tryz.func256 Tryz.ntmps256 rfl rfl rfl (fun w0=>?_);refine rrs ?_;refine cl (h0) ?_;intro z hz;try simp only [Sx.ap1,Sx.ap2,Sx.ap3]
  cases hz;refine rr ?_;refine cl (h1) ?_;intro y hy;refine rrs ?_;refine cl (h2 y hy) ?_;intro z hz;refine rrs ?_;refine cl (h3 z hz) ?_;intro u hu;refine rrs ?_;exact en u hu
 ·simp only [if_neg c1];have n1:=fun y hy=>noC (TA:=TA) (L:=L) c s y [40] hy c1
  by_cases c2:mSees [45] s=true
  ·simp only [if_pos c2];have h1:=fun y hy=>yesC (TA:=TA) (L:=L) c s y [45] hy c2
   have e1:=ex_sees c2;have l1:=tail_lt (sees_ne c2);generalize mTail s=s1 at *;have h2:=fun y hy=>innerN (TA:=TA) (L:=L) c _ fa n hfa hea s1 y (mHere s) (by omega) (hg.ex e1) (by have:=e1.w;omega) hy
   have e2:=e1.tr (k := -99) (ex_inner (mHere s) s1 (hea _));have w2:=e2.w;generalize mInner (mHere s) fa s1=r at *;obtain ⟨rn,s2⟩:=r;dsimp only at *;have h3:=fun y hy=>putC (TA:=TA) (L:=L) c s2 y ⟨2,rn,0,rn,0⟩ (by have:=wt_code (Int.le_refl (wt s2));omega) hy
   generalize mPut ⟨2,rn,0,rn,0⟩ s2=s3 at *;try unfold cmH csC at *
   try unfold cP at *
   try unfold bP at *
   try unfold tP at *
   try unfold inG at *
   try unfold thG at *
   try unfold clo at *
   refine fn_intro Tryz.func256 Tryz.ntmps256 rfl rfl rfl (fun w0=>?_);refine rrs ?_;refine cl (h0) ?_;intro z hz;try simp only [Sx.ap1,Sx.ap2,Sx.ap3]
   cases hz;refine rr ?_;refine cl (n1 x hx) ?_;intro y hy;refine rrs ?_;refine cl (h1 y hy) ?_;intro z hz;refine rrs ?_;refine cl (h2 z hz) ?_;intro y hy;refine rrs ?_;refine cl (h3 y hy) ?_;intro u hu;refine rrs ?_;exact en u hu
  ·simp only [if_neg c2];have n2:=fun y hy=>noC (TA:=TA) (L:=L) c s y [45] hy c2
   by_cases c3:mSees [110,111,116] s=true
   ·simp only [if_pos c3];have h1:=fun y hy=>yesC (TA:=TA) (L:=L) c s y [110,111,116] hy c3
    have e1:=ex_sees c3;have l1:=tail_lt (sees_ne c3);generalize mTail s=s1 at *;have h2:=fun y hy=>innerN (TA:=TA) (L:=L) c _ fa n hfa hea s1 y (mHere s) (by omega) (hg.ex e1) (by have:=e1.w;omega) hy
    have e2:=e1.tr (k := -99) (ex_inner (mHere s) s1 (hea _));have w2:=e2.w;generalize mInner (mHere s) fa s1=r at *;obtain ⟨rn,s2⟩:=r;dsimp only at *;have h3:=fun y hy=>putC (TA:=TA) (L:=L) c s2 y ⟨9,rn,rn,0,0⟩ (by have:=wt_code (Int.le_refl (wt s2));omega) hy
    generalize mPut ⟨9,rn,rn,0,0⟩ s2=s3 at *;try unfold cmH csC at *
    try unfold cP at *
    try unfold bP at *
    try unfold tP at *
    try unfold inG at *
    try unfold thG at *
    try unfold clo at *
    refine fn_intro Tryz.func256 Tryz.ntmps256 rfl rfl rfl (fun w0=>?_);refine rrs ?_;refine cl (h0) ?_;intro z hz;try simp only [Sx.ap1,Sx.ap2,Sx.ap3]
    cases hz;refine rr ?_;refine cl (n1 x hx) ?_;intro y hy;refine rrs ?_;refine cl (n2 y hy) ?_;intro z hz;refine rrs ?_;refine cl (h1 z hz) ?_;intro y hy;refine rrs ?_;refine cl (h2 y hy) ?_;intro z hz;refine rrs ?_;refine cl (h3 z hz) ?_;intro u hu;refine rrs ?_;exact en u hu
   ·simp only [if_neg c3];have n3:=fun y hy=>noC (TA:=TA) (L:=L) c s y [110,111,116] hy c3
    have hnm:=fun y hy=>namedC (TA:=TA) (L:=L) c s y hy
    by_cases c4:mNamed s=true
    ·simp only [if_pos c4];rw [c4] at hnm;have h1:=fun y hy=>valueC (TA:=TA) (L:=L) c ex n hf he s y c4 (by omega) hg hw hy
     generalize mValue ex s=r at *;obtain ⟨rn,s2⟩:=r;dsimp only at *;try unfold cmH csC at *
     try unfold cP at *
     try unfold bP at *
     try unfold tP at *
     try unfold inG at *
     try unfold thG at *
     try unfold clo at *
     refine fn_intro Tryz.func256 Tryz.ntmps256 rfl rfl rfl (fun w0=>?_);refine rrs ?_;refine cl (h0) ?_;intro z hz;try simp only [Sx.ap1,Sx.ap2,Sx.ap3]
     cases hz;refine rr ?_;refine cl (n1 x hx) ?_;intro y hy;refine rrs ?_;refine cl (n2 y hy) ?_;intro z hz;refine rrs ?_;refine cl (n3 z hz) ?_;intro y hy;refine rrs ?_;refine cl (hnm y hy) ?_;intro z hz;try simp only [Sx.ap1,Sx.ap2,Sx.ap3]
     cases hz;refine rr ?_;refine cl (h1 y hy) ?_;intro u hu;refine rrs ?_;exact en u hu
    ·simp only [if_neg c4];have c4':mNamed s=false:=by simpa using c4
     rw [c4'] at hnm;have h1:=fun y hy=>numberC (TA:=TA) (L:=L) c s y hy
     by_cases c5:(mNumber s).2.e=0
     ·have h2:=ex_num (s:=s) (by simpa using c5);obtain ⟨e1,hnu,heq⟩:=h2
      have hnr:0≤(mNumber s).1∧(mNumber s).1≤32767:=by
       rw [heq];obtain ⟨t,r,ht⟩:=List.exists_cons_of_ne_nil (num_ne hnu);have:=hg.nm t (by rw [ht];exact List.mem_cons_self ..);simp only [mNum,ht];exact this
      simp only [if_neg (show ¬ ((mNumber s).2.e≠0) by simpa using c5)];clear heq;generalize mNumber s=a at *;obtain ⟨v,s1⟩:=a;dsimp only at *;have h3:=fun y hy=>regC (TA:=TA) (L:=L) c s1 y (mHere s) (hg.ex e1).tk hy
      have e3:=e1.tr (k := -100) (ex_reg (mHere s) s1);have w3:=e3.w;generalize mReg (mHere s) s1=r at *;obtain ⟨rn,s2⟩:=r;dsimp only at *;have h4:=fun y hy=>constC (TA:=TA) (L:=L) c s2 y rn v hnr (by have:=wt_code (Int.le_refl (wt s2));omega) hy
      generalize mConst rn v s2=s3 at *;try unfold cmH csC at *
      try unfold cP at *
      try unfold bP at *
      try unfold tP at *
      try unfold inG at *
      try unfold thG at *
      try unfold clo at *
      refine fn_intro Tryz.func256 Tryz.ntmps256 rfl rfl rfl (fun w0=>?_);refine rrs ?_;refine cl (h0) ?_;intro z hz;try simp only [Sx.ap1,Sx.ap2,Sx.ap3]
      cases hz;refine rr ?_;refine cl (n1 x hx) ?_;intro y hy;refine rrs ?_;refine cl (n2 y hy) ?_;intro z hz;refine rrs ?_;refine cl (n3 z hz) ?_;intro y hy;refine rrs ?_;refine cl (hnm y hy) ?_;intro z hz;try simp only [Sx.ap1,Sx.ap2,Sx.ap3]
      cases hz;refine rr ?_;refine cl (h1 y hy) ?_;intro z hz;refine rrs ?_;refine cl (h3 z hz) ?_;intro y hy;refine rrs ?_;refine cl (h4 y hy) ?_;intro u hu;refine rrs ?_;exact en u hu
     ·simp only [if_pos (show (mNumber s).2.e≠0 by simpa using c5)];generalize mNumber s=a at *;obtain ⟨v,s1⟩:=a;dsimp only at *;try unfold cmH csC at *
      try unfold cP at *
      try unfold bP at *
      try unfold tP at *
      try unfold inG at *
      try unfold thG at *
      try unfold clo at *
      refine fn_intro Tryz.func256 Tryz.ntmps256 rfl rfl rfl (fun w0=>?_);refine rrs ?_;refine cl (h0) ?_;intro z hz;try simp only [Sx.ap1,Sx.ap2,Sx.ap3]
      cases hz;refine rr ?_;refine cl (n1 x hx) ?_;intro y hy;refine rrs ?_;refine cl (n2 y hy) ?_;intro z hz;refine rrs ?_;refine cl (n3 z hz) ?_;intro y hy;refine rrs ?_;refine cl (hnm y hy) ?_;intro z hz;try simp only [Sx.ap1,Sx.ap2,Sx.ap3]
      cases hz;refine rr ?_;refine cl (h1 y hy) ?_;intro z hz;refine rrs ?_;exact en z hz
end
section
variable {TA:Addr} {L:List (Sc.Tk×Nat)}
def opV (ops:List (List UInt8×Int)):List (ByteArray×Value):=ops.map fun e=>(Sc.bs e.1,.int .i64 e.2)
theorem opV_at:∀ (ops:List (List UInt8×Int)) (w:List UInt8),atK (opV ops) (Sc.bs w)=(opsOf ops w).map (Value.int .i64)
 | [],w=>rfl
 | (a,n)::r,w=>by
  have ih:=opV_at r w;unfold opsOf;simp only [opV,List.map_cons,atK] at ih ⊢;by_cases h:a=w
  ·simp [h]
  ·have h2:¬ w=a:=fun e=>h e.symm
   simp [h,h2,Sc.bs_inj,ih]
def opM (g:Nat) (ops:List (List UInt8×Int)):Chunk:=mapC Value.string g (opV ops)
theorem joinedC (c F g:Nat) (part:CS→Int×CS) (ops:List (List UInt8×Int)) (n:Nat) (hp:DoesN TA L c F part n) (hep:∀ s,Ex 0 s (part s).2) (s:CS) (x:Ad) (hn:s.toks.length<n) (hg:Gd s) (hw:wt s≤1000000000000) (hx:OkX TA L s x):FnC Tryz.prog 238 [cP c,clo F c,.map (some g)] (cmH c s x++[opM g ops]) [tkB TA L,spaceV] (fun _=>.int .i64 (mJoined part ops s).1) (fun y:Ad=>cmH c (mJoined part ops s).2 y++[opM g ops]) (fun y=>OkX TA L (mJoined part ops s).2 y):=by
 have h1:=hp s hn hg hw x hx;have e1:=hep s;unfold mJoined;dsimp only;generalize part s=r at *;obtain ⟨rn,s1⟩:=r;dsimp only at *;have g1:=hg.ex e1;have w1:=e1.w;have l1:=e1.ln;generalize hS:mJoin part ops rn s1.toks.length s1=sF at *;unfold opM;try unfold cmH csC at *
 try unfold cP at *
 try unfold bP at *
 try unfold tP at *
 try unfold inG at *
 try unfold thG at *
 try unfold clo at *
 refine fn_intro Tryz.func238 Tryz.ntmps238 rfl rfl rfl (fun w0=>?_);refine rrs ?_;refine clv (h1) ?_;intro y hy;refine rrs ?_;refine lo [0,1,2,7] (fun z:CS×Ad×Nat=>[]) (fun z=>[(0,blk c (csC z.1 z.2.1) 80),(1,row z.2.1.ca z.2.1.cc 105 5 z.1.code.length (insC z.1.code)),(2,row z.2.1.pa z.2.1.pc 94 3 z.1.pats.length (paC z.1.pats)),(3,row z.2.1.na z.2.1.nc 274 5 z.1.ents.length (enC z.1.ents)),(4,row z.2.1.ba z.2.1.bc 3 1 z.1.begs.length (natC z.1.begs)),(5,row z.2.1.ea z.2.1.ec 154 2 z.1.exps.length (syC z.1.exps)),(6,row z.2.1.ia z.2.1.ic 9 1 z.1.imps.length (strC z.1.imps))]) (fun z=>z.1.toks.length≤z.2.2∧z.1.toks.length<n∧Gd z.1∧wt z.1≤1000000000000∧OkX TA L z.1 z.2.1∧mJoin part ops rn z.2.2 z.1=sF) (fun z=>z.2.2) (s1,y,s1.toks.length) ⟨Nat.le_refl _,by dsimp only;omega,g1,by dsimp only;omega,hy,hS⟩ ?_;rintro ⟨s2,x2,m⟩ ⟨hm,hn2,hg2,hw2,hx2,hF⟩ K1 hK1;dsimp only at hm hn2 hg2 hw2 hx2 hF ⊢;unfold csC
 have hstop:¬ (s2.e=0∧s2.toks≠[])→sF=s2:=by
  intro h;rw [← hF];cases m with
  | zero=>rfl
  | succ m=>unfold mJoin;rw [if_neg h]
 by_cases he:s2.e=0
 ·cases ht:s2.toks with
  | nil=>
   have hF2:=hstop (by intro h;exact h.2 ht);subst hF2;rw [List.length_nil];refine rr ?_;exact en x2 hx2 (hp:=by rw [ht];(repeat (first | exact Has.nil | (apply Has.cons;focus ((repeat (first | exact pick_here | apply pick_there));done)) | apply Has.nrow | apply Has.gen0)))
  | cons t r=>
   have hne:s2.toks≠[]:=by rw [ht];simp
   obtain ⟨a,ha⟩:=hx2.some hne;have hl:(t::r).length=r.length+1:=rfl;have hT:mText s2=t.1.text:=by unfold mText;rw [ht]
   rw [ht,hl] at hm;obtain ⟨m,rfl⟩:∃ m',m=m'+1:=⟨m-1,by omega⟩
   unfold mJoin at hF;rw [if_pos ⟨he,hne⟩,hT] at hF;have hat:=opV_at ops t.1.text;have hsee:=fun y hy=>hasC (TA:=TA) (L:=L) c s2 y t.1.text hy
   cases ho:opsOf ops t.1.text with
   | none=>
    rw [ho] at hF hat;dsimp only at hF;subst hF;refine w_turn (fun w hw=>tk_look (k:=8) hw rfl hx2 hne ha) ?_;rw [ht,ha,hl,tokC_cons];refine rr ?_;rw [hat];dsimp only [Option.map_none,Option.isSome,Option.getD,lookV];refine rr ?_;exact en x2 hx2 (hp:=by rw [ha];(repeat (first | exact Has.nil | (apply Has.cons;focus ((repeat (first | exact pick_here | apply pick_there));done)) | apply Has.nrow | apply Has.gen0)))
   | some op=>
    rw [ho] at hF hat;dsimp only at hF;by_cases hs:mSees t.1.text s2=true
    ·rw [if_pos hs] at hF;have h2:=yesC (TA:=TA) (L:=L) c s2 x2 t.1.text hx2 hs;have e2:=ex_sees hs;have l2:=tail_lt hne;have w2:=e2.w;have g2:=hg2.ex e2;have lt2:(mTail s2).toks.length=r.length:=by simp [mTail,ht]
     generalize hs3:mTail s2=s3 at *;have h3:=fun y hy=>hp s3 (by omega) g2 (by omega) y hy
     have e3:=e2.tr (k := -100) (hep s3);have w3:=e3.w;have l3:=(hep s3).ln;generalize part s3=r3 at *;obtain ⟨pn,s4⟩:=r3;dsimp only at h3 e3 w3 l3;have g4:=hg2.ex e3;have h4:=fun y hy=>putC (TA:=TA) (L:=L) c s4 y ⟨op,rn,rn,pn,0⟩ (by have:=wt_code (Int.le_refl (wt s4));omega) hy
     have e4:=e3.tr (k := -99) (ex_put ⟨op,rn,rn,pn,0⟩ s4);have l4:=(ex_put ⟨op,rn,rn,pn,0⟩ s4).ln;generalize mPut ⟨op,rn,rn,pn,0⟩ s4=s5 at *;have g5:=hg2.ex e4;have h5:=fun y hy=>giveC (TA:=TA) (L:=L) c s5 y g5.tk hy
     have e5:=e4.tr (k := -99) (ex_give s5);have l5:=(ex_give s5).ln;generalize mGive s5=s6 at *;have w5:=e5.w;replace h2:=uh h2;replace h3:=uh h3;replace h4:=uh h4;replace h5:=uh h5;refine ug ?_;refine w_turn (fun w hw=>tk_look (k:=8) hw rfl hx2 hne ha) ?_;rw [ha] at h2 ⊢;rw [ht,hl] at h2 ⊢;rw [tokC_cons];refine rr ?_;rw [hat];dsimp only [Option.map_some,Option.isSome,Option.getD,lookV];refine rr ?_;refine cl (h2) ?_;intro y hy;refine rrs ?_;refine clv (h3 y hy) ?_;intro z hz;refine rrs ?_;refine cl (h4 z hz) ?_;intro u hu;refine rrs ?_;refine cl (h5 u hu) ?_;intro v hv;refine rrs ?_;exact ro hK1 (s6,v,m) ⟨by dsimp only;omega,by dsimp only;omega,hg2.ex e5,by dsimp only;omega,hv,hF⟩
    ·rw [if_neg hs] at hF;have h2:=noC (TA:=TA) (L:=L) c s2 x2 t.1.text hx2 hs;subst hF;clear hsee;replace h2:=uh h2;refine ug ?_;refine w_turn (fun w hw=>tk_look (k:=8) hw rfl hx2 hne ha) ?_;rw [ha] at h2 ⊢;rw [ht,hl] at h2 ⊢;rw [tokC_cons];refine rr ?_;rw [hat];dsimp only [Option.map_some,Option.isSome,Option.getD,lookV];refine rr ?_;refine cl (h2) ?_;intro y hy;refine rrs ?_;exact en y hy
 ·have hF2:=hstop (by intro h;exact he h.1);subst hF2;refine rr ?_;exact en x2 hx2
end
section
variable {TA:Addr} {L:List (Sc.Tk×Nat)}
theorem DoesN.le {c F:Nat} {f:CS→Int×CS} {n m:Nat} (h:DoesN TA L c F f n) (hm:m≤n):DoesN TA L c F f m:=fun s hs=>h s (by omega)
theorem termC (c n:Nat) (fa:CS→Int×CS) (hf:DoesN TA L c 256 fa n) (he:∀ s,Ex 0 s (fa s).2):DoesN TA L c 239 (mTerm fa) n:=by
 intro s hn hg hw x hx;have h1:=fun g=>joinedC (TA:=TA) (L:=L) c _ g fa termO n hf he s x hn hg hw hx
 have hm:putK (putK (putK (putK [] (Sc.bs [42]) (.int .i64 3)) (Sc.bs [100,105,118]) (.int .i64 4)) (Sc.bs [109,111,100]) (.int .i64 5)) (Sc.bs [97,110,100]) (.int .i64 6)=opV termO:=by kernel_rfl
 unfold mTerm;generalize mJoined fa termO s=r at *;obtain ⟨rn,s1⟩:=r;dsimp only at h1 ⊢;unfold opM at h1;try unfold cmH csC at *
 try unfold cP at *
 try unfold bP at *
 try unfold tP at *
 try unfold inG at *
 try unfold thG at *
 try unfold clo at *
 refine fn_intro Tryz.func239 Tryz.ntmps239 rfl rfl rfl (fun w0=>?_);refine rrs ?_;intro g1 _;refine rr ?_;show Wd _ _ (mapC Value.string g1 []::_) _
 refine rr ?_;change Wd _ _ (mapC Value.string g1 (putK (putK (putK (putK [] (Sc.bs [42]) (.int .i64 3)) (Sc.bs [100,105,118]) (.int .i64 4)) (Sc.bs [109,111,100]) (.int .i64 5)) (Sc.bs [97,110,100]) (.int .i64 6))::_) _;rw [hm];refine cl (h1 g1) ?_;intro y hy;refine rrs ?_;exact en y hy
theorem sumC (c n:Nat) (fa:CS→Int×CS) (hf:DoesN TA L c 256 fa n) (he:∀ s,Ex 0 s (fa s).2):DoesN TA L c 218 (mSum fa) n:=by
 intro s hn hg hw x hx;have h1:=fun g=>joinedC (TA:=TA) (L:=L) c _ g (mTerm fa) sumO n (termC c n fa hf he) (fun s=>ex_joined he termO s) s x hn hg hw hx
 have hm:putK (putK (putK [] (Sc.bs [43]) (.int .i64 1)) (Sc.bs [45]) (.int .i64 2)) (Sc.bs [111,114]) (.int .i64 7)=opV sumO:=by kernel_rfl
 unfold mSum;generalize mJoined (mTerm fa) sumO s=r at *;obtain ⟨rn,s1⟩:=r;dsimp only at h1 ⊢;unfold opM at h1;try unfold cmH csC at *
 try unfold cP at *
 try unfold bP at *
 try unfold tP at *
 try unfold inG at *
 try unfold thG at *
 try unfold clo at *
 refine fn_intro Tryz.func218 Tryz.ntmps218 rfl rfl rfl (fun w0=>?_);refine rrs ?_;intro g1 _;refine rr ?_;show Wd _ _ (mapC Value.string g1 []::_) _
 refine rr ?_;change Wd _ _ (mapC Value.string g1 (putK (putK (putK [] (Sc.bs [43]) (.int .i64 1)) (Sc.bs [45]) (.int .i64 2)) (Sc.bs [111,114]) (.int .i64 7))::_) _;rw [hm];refine cl (h1 g1) ?_;intro y hy;refine rrs ?_;exact en y hy
end
section
variable {TA:Addr} {L:List (Sc.Tk×Nat)}
def cmpV:List Value:=cmpL.map fun w=>.string (Sc.bs w)
theorem cmpL_drop {i:Nat} {w:List UInt8} (h:cmpL[i]? = some w):cmpL.drop i=w::cmpL.drop (i+1):=by
 obtain ⟨hi,hb⟩:=List.getElem?_eq_some_iff.1 h;rw [List.drop_eq_getElem_cons hi,hb]
theorem exprC (c n:Nat) (fa:CS→Int×CS) (hf:DoesN TA L c 256 fa n) (he:∀ s,Ex 0 s (fa s).2):DoesN TA L c 179 (mExprB fa) n:=by
 intro s hn hg hw x hx;have h1:=sumC c n fa hf he s hn hg hw x hx;have e1:=ex_sum he s;unfold mExprB;dsimp only;generalize mSum fa s=r at *;obtain ⟨rn,s1⟩:=r;dsimp only at h1 e1 ⊢;have g1:=hg.ex e1;have w1:=e1.w;have l1:=e1.ln;generalize hS:mCmps fa rn cmpL s1=sF at *;replace h1:=uh h1;refine ug ?_;refine fn_intro Tryz.func179 Tryz.ntmps179 rfl rfl rfl (fun w0=>?_);refine rrs ?_;refine cl (h1) ?_;intro y hy;refine rrs ?_;intro b1 _;refine rr ?_;refine w_turn (fun w hw=>St.row_of_blk (m:=6) (sz:=1) (cs:=cmpV) hw rfl (by decide)) ?_;refine lo [0,3,10,11] (fun z:Nat×Ad=>[(12,.int .i64 (z.1:Int))]) (fun z=>[(1,blk c (csC s1 z.2) 80),(2,row z.2.ca z.2.cc 105 5 s1.code.length (insC s1.code)),(3,row z.2.pa z.2.pc 94 3 s1.pats.length (paC s1.pats)),(4,row z.2.na z.2.nc 274 5 s1.ents.length (enC s1.ents)),(5,row z.2.ba z.2.bc 3 1 s1.begs.length (natC s1.begs)),(6,row z.2.ea z.2.ec 154 2 s1.exps.length (syC s1.exps)),(7,row z.2.ia z.2.ic 9 1 s1.imps.length (strC s1.imps))]) (fun z=>z.1≤6∧OkX TA L s1 z.2∧mCmps fa rn (cmpL.drop z.1) s1=sF) (fun z=>6-z.1) (0,y) ⟨by dsimp only;omega,hy,hS⟩ ?_;rintro ⟨i,y2⟩ ⟨hi,hy2,hF⟩ K1 hK1;dsimp only at hi hy2 hF ⊢;unfold csC;by_cases hi6:i<6
 ·obtain ⟨w,hwi⟩:=some_at (l:=cmpL) (k:=i) hi6
  have hcv:cmpV[0+(i:Int).toNat*1]? = some (.string (Sc.bs w)):=by
   rw [show 0+(i:Int).toNat*1=i by omega];unfold cmpV;rw [List.getElem?_map,hwi];rfl
  rw [cmpL_drop hwi] at hF;unfold mCmps at hF;by_cases he1:s1.e=0
  ·by_cases hs:mSees w s1=true
   ·rw [if_pos ⟨he1,hs⟩] at hF;have h2:=yesC (TA:=TA) (L:=L) c s1 y2 w hy2 hs;have e2:=ex_sees hs;have l2:=tail_lt (sees_ne hs);have w2:=e2.w;have g2:=g1.ex e2;unfold mCmp at hF;dsimp only at hF;generalize mTail s1=s3 at *;have h3:=fun y hy=>sumC c n fa hf he s3 (by omega) g2 (by omega) y hy
    have e3:=e2.tr (k := -100) (ex_sum he s3);have w3:=e3.w;generalize mSum fa s3=r3 at h3 e3 w3 hF;obtain ⟨pn,s4⟩:=r3;dsimp only at h3 e3 w3 hF;have g4:=g1.ex e3;have hcode:=wt_code (Int.le_refl (wt s4));have h4:=fun j y hy=>putC (TA:=TA) (L:=L) c s4 y j (by omega) hy
    have h5:=fun j y hy=>putC (TA:=TA) (L:=L) c (mPut j s4) y ⟨9,rn,rn,0,0⟩ (by have:=wt_code (Int.le_refl (wt (mPut j s4)));have:=(ex_put j s4).w;omega) hy
    have h6:=fun j y hy=>giveC (TA:=TA) (L:=L) c (mPut j s4) y g4.tk hy
    have h7:=fun j j' y hy=>giveC (TA:=TA) (L:=L) c (mPut j' (mPut j s4)) y g4.tk hy
    obtain rfl | rfl | rfl | rfl | rfl | rfl:i=0∨i=1∨i=2∨i=3∨i=4∨i=5:=by omega
    ·cases (show w=[61] from (Option.some.inj hwi).symm);simp (decide:=true) only [ite_true,ite_false,if_true,if_false,or_true,true_or,false_or,or_false] at hF;subst hF;have h4':=h4 ⟨9,rn,rn,pn,0⟩;have h6':=h6 ⟨9,rn,rn,pn,0⟩;clear h4 h5 h6 h7;generalize mPut ⟨9,rn,rn,pn,0⟩ s4=s5 at *;replace h2:=uh h2;replace h3:=uh h3;replace h4':=uh h4';replace h6':=uh h6';refine ug ?_;refine rr ?_;refine cl (h2) ?_;intro y3 hy3;refine rrs ?_;refine cl (h3 y3 hy3) ?_;intro y4 hy4;refine rrs ?_;intro b2 _;refine rr ?_;refine dx [0,1,2,3,4] [] [] ?_;refine rr ?_;refine cle (h4' y4 hy4) ?_;intro y5 hy5;refine rrs ?_;refine cl (h6' y5 hy5) ?_;intro y6 hy6;refine rrs ?_;exact en y6 hy6
    ·cases (show w=[60,62] from (Option.some.inj hwi).symm);simp (decide:=true) only [ite_true,ite_false,if_true,if_false,or_true,true_or,false_or,or_false] at hF;subst hF;have h4':=h4 ⟨9,rn,rn,pn,0⟩;have h5':=h5 ⟨9,rn,rn,pn,0⟩;have h6':=h7 ⟨9,rn,rn,pn,0⟩ ⟨9,rn,rn,0,0⟩;clear h4 h5 h6 h7;generalize mPut ⟨9,rn,rn,0,0⟩ (mPut ⟨9,rn,rn,pn,0⟩ s4)=s6 at *;generalize mPut ⟨9,rn,rn,pn,0⟩ s4=s5 at *;replace h2:=uh h2;replace h3:=uh h3;replace h4':=uh h4';replace h5':=uh h5';replace h6':=uh h6';refine ug ?_;refine rr ?_;refine cl (h2) ?_;intro y3 hy3;refine rrs ?_;refine cl (h3 y3 hy3) ?_;intro y4 hy4;refine rrs ?_;intro b2 _;refine rr ?_;refine dx [0,1,2,3,4] [] [] ?_;refine rr ?_;refine cle (h4' y4 hy4) ?_;intro y5 hy5;refine rrs ?_;refine cl (h5' y5 hy5) ?_;intro y6 hy6;refine rrs ?_;refine cl (h6' y6 hy6) ?_;intro y7 hy7;refine rrs ?_;exact en y7 hy7
    ·cases (show w=[60,61] from (Option.some.inj hwi).symm);simp (decide:=true) only [ite_true,ite_false,if_true,if_false,or_true,true_or,false_or,or_false] at hF;subst hF;have h4':=h4 ⟨8,rn,pn,rn,0⟩;have h5':=h5 ⟨8,rn,pn,rn,0⟩;have h6':=h7 ⟨8,rn,pn,rn,0⟩ ⟨9,rn,rn,0,0⟩;clear h4 h5 h6 h7;generalize mPut ⟨9,rn,rn,0,0⟩ (mPut ⟨8,rn,pn,rn,0⟩ s4)=s6 at *;generalize mPut ⟨8,rn,pn,rn,0⟩ s4=s5 at *;replace h2:=uh h2;replace h3:=uh h3;replace h4':=uh h4';replace h5':=uh h5';replace h6':=uh h6';refine ug ?_;refine rr ?_;refine cl (h2) ?_;intro y3 hy3;refine rrs ?_;refine cl (h3 y3 hy3) ?_;intro y4 hy4;refine rrs ?_;intro b2 _;refine rr ?_;refine dx [0,1,2,3,4] [] [] ?_;refine rr ?_;refine cle (h4' y4 hy4) ?_;intro y5 hy5;refine rrs ?_;refine cl (h5' y5 hy5) ?_;intro y6 hy6;refine rrs ?_;refine cl (h6' y6 hy6) ?_;intro y7 hy7;refine rrs ?_;exact en y7 hy7
    ·cases (show w=[62,61] from (Option.some.inj hwi).symm);simp (decide:=true) only [ite_true,ite_false,if_true,if_false,or_true,true_or,false_or,or_false] at hF;subst hF;have h4':=h4 ⟨8,rn,rn,pn,0⟩;have h5':=h5 ⟨8,rn,rn,pn,0⟩;have h6':=h7 ⟨8,rn,rn,pn,0⟩ ⟨9,rn,rn,0,0⟩;clear h4 h5 h6 h7;generalize mPut ⟨9,rn,rn,0,0⟩ (mPut ⟨8,rn,rn,pn,0⟩ s4)=s6 at *;generalize mPut ⟨8,rn,rn,pn,0⟩ s4=s5 at *;replace h2:=uh h2;replace h3:=uh h3;replace h4':=uh h4';replace h5':=uh h5';replace h6':=uh h6';refine ug ?_;refine rr ?_;refine cl (h2) ?_;intro y3 hy3;refine rrs ?_;refine cl (h3 y3 hy3) ?_;intro y4 hy4;refine rrs ?_;intro b2 _;refine rr ?_;refine dx [0,1,2,3,4] [] [] ?_;refine rr ?_;refine cle (h4' y4 hy4) ?_;intro y5 hy5;refine rrs ?_;refine cl (h5' y5 hy5) ?_;intro y6 hy6;refine rrs ?_;refine cl (h6' y6 hy6) ?_;intro y7 hy7;refine rrs ?_;exact en y7 hy7
    ·cases (show w=[60] from (Option.some.inj hwi).symm);simp (decide:=true) only [ite_true,ite_false,if_true,if_false,or_true,true_or,false_or,or_false] at hF;subst hF;have h4':=h4 ⟨8,rn,rn,pn,0⟩;have h6':=h6 ⟨8,rn,rn,pn,0⟩;clear h4 h5 h6 h7;generalize mPut ⟨8,rn,rn,pn,0⟩ s4=s5 at *;replace h2:=uh h2;replace h3:=uh h3;replace h4':=uh h4';replace h6':=uh h6';refine ug ?_;refine rr ?_;refine cl (h2) ?_;intro y3 hy3;refine rrs ?_;refine cl (h3 y3 hy3) ?_;intro y4 hy4;refine rrs ?_;intro b2 _;refine rr ?_;refine dx [0,1,2,3,4] [] [] ?_;refine rr ?_;refine cle (h4' y4 hy4) ?_;intro y5 hy5;refine rrs ?_;refine cl (h6' y5 hy5) ?_;intro y6 hy6;refine rrs ?_;exact en y6 hy6
    ·cases (show w=[62] from (Option.some.inj hwi).symm);simp (decide:=true) only [ite_true,ite_false,if_true,if_false,or_true,true_or,false_or,or_false] at hF;subst hF;have h4':=h4 ⟨8,rn,pn,rn,0⟩;have h6':=h6 ⟨8,rn,pn,rn,0⟩;clear h4 h5 h6 h7;generalize mPut ⟨8,rn,pn,rn,0⟩ s4=s5 at *;replace h2:=uh h2;replace h3:=uh h3;replace h4':=uh h4';replace h6':=uh h6';refine ug ?_;refine rr ?_;refine cl (h2) ?_;intro y3 hy3;refine rrs ?_;refine cl (h3 y3 hy3) ?_;intro y4 hy4;refine rrs ?_;intro b2 _;refine rr ?_;refine dx [0,1,2,3,4] [] [] ?_;refine rr ?_;refine cle (h4' y4 hy4) ?_;intro y5 hy5;refine rrs ?_;refine cl (h6' y5 hy5) ?_;intro y6 hy6;refine rrs ?_;exact en y6 hy6
   ·rw [if_neg (by intro h;exact hs h.2)] at hF;have h2:=noC (TA:=TA) (L:=L) c s1 y2 w hy2 hs;replace h2:=uh h2;refine rr ?_;refine cl (h2) ?_;intro z hz;refine rrs ?_;exact ro hK1 (i+1,z) ⟨by dsimp only;omega,hz,hF⟩
  ·rw [if_neg (by intro h;exact he1 h.1)] at hF;refine rr ?_;exact ro hK1 (i+1,y2) ⟨by dsimp only;omega,hy2,hF⟩
 ·have hi7:i=6:=by omega
  subst hi7;have hF2:s1=sF:=hF;subst hF2;refine rr ?_;exact en y2 hy2
end
section
variable {TA:Addr} {L:List (Sc.Tk×Nat)}
theorem factorN (c:Nat):∀ n,DoesN TA L c 256 (mFactor n) n
 | 0=>fun s hs=>absurd hs (Nat.not_lt_zero _)
 | n+1=>factorC c (mExprB (mFactor n)) (mFactor n) n (exprC c n (mFactor n) (factorN c n) (ex_factor n)) (fun s=>ex_exprB (ex_factor n) s) (factorN c n) (ex_factor n)
theorem exprN (c N:Nat):DoesN TA L c 179 (mExpr N) N:=exprC c N (mFactor N) (factorN c N) (ex_factor N)
theorem exprS (c N:Nat) (s:CS) (x:Ad) (hn:s.toks.length<N) (hg:Gd s) (hw:wt s≤1000000000000) (hx:OkX TA L s x):FnC Tryz.prog 179 [cP c] (cmH c s x) [tkB TA L,spaceV] (fun _=>.int .i64 (mExpr N s).1) (fun y:Ad=>cmH c (mExpr N s).2 y) (fun y=>OkX TA L (mExpr N s).2 y):=exprN c N s hn hg hw x hx
theorem assignC (c N:Nat) (t:Th) (s:CS) (x:Ad) (hn:s.toks.length<N) (hg:Gd s) (hw:wt s+4≤1000000000000) (hx:OkX TA L s x):FnC Tryz.prog 222 [cP c,thG t] (cmH c s x) [tkB TA L,spaceV] (fun _=>.tuple #[]) (fun y:Ad=>cmH c (mAssign N t s) y) (fun y=>OkX TA L (mAssign N t s) y):=by
 unfold mAssign;dsimp only;by_cases hk:t.kind=1
 ·simp only [if_pos hk];have h1:=indexC (TA:=TA) (L:=L) c (mExpr N) N (exprN c N) (ex_expr N) t s x hn hg (by omega) hx;have e1:=ex_index (ex_expr N) t s;generalize mIndex (mExpr N) t s=r at *;obtain ⟨ra,s1⟩:=r;dsimp only at *;have h2:=fun y hy=>mustC (TA:=TA) (L:=L) c s1 y [58,61] hy
  have e2:=e1.tr (k:=2) (ex_must [58,61] s1);generalize mMust [58,61] s1=s2 at *;have h3:=fun y hy=>exprS (TA:=TA) (L:=L) c N s2 y (by have:=e2.ln;omega) (hg.ex e2) (by have:=e2.w;omega) hy
  have e3:=e2.tr (k:=2) (ex_expr N s2);generalize mExpr N s2=r at *;obtain ⟨rn,s3⟩:=r;dsimp only at *;have w3:=e3.w;have h4:=fun y hy=>markC (TA:=TA) (L:=L) c s3 y ⟨13,rn,ra,0,t.pl⟩ 1 0 (by have:=wt_code (Int.le_refl (wt s3));omega) (by have:=wt_pats (Int.le_refl (wt s3));omega) hy
  have e4:=e3.tr (k:=4) (ex_mark ⟨13,rn,ra,0,t.pl⟩ 1 0 s3);generalize mMark ⟨13,rn,ra,0,t.pl⟩ 1 0 s3=s4 at *;have h5:=fun y hy=>giveC (TA:=TA) (L:=L) c s4 y (hg.ex e4).tk hy
  have e5:=e4.tr (k:=4) (ex_give s4);generalize mGive s4=s5 at *;have h6:=fun y hy=>giveC (TA:=TA) (L:=L) c s5 y (hg.ex e5).tk hy
  generalize mGive s5=s6 at *;replace h1:=uh h1;replace h2:=uh h2;replace h3:=uh h3;replace h4:=uh h4;replace h5:=uh h5;replace h6:=uh h6;refine ug ?_;refine fn_intro Tryz.func222 Tryz.ntmps222 rfl rfl rfl (fun w0=>?_);refine rrs ?_;intro b1 _;refine rr ?_;refine cl (h1) ?_;intro y hy;refine rrs ?_;refine cl (h2 y hy) ?_;intro z hz;refine rrs ?_;refine cl (h3 z hz) ?_;intro y hy;refine rrs ?_;refine dx [0,1,2,3,4,5,6,7,8] [] [] ?_;refine rr ?_;refine cle (h4 y hy) ?_;intro z hz;refine rrs ?_;refine cl (h5 z hz) ?_;intro y hy;refine rrs ?_;refine cl (h6 y hy) ?_;intro z hz;refine rrs ?_;exact en z hz
 ·simp only [if_neg hk];have h2:=mustC (TA:=TA) (L:=L) c s x [58,61] hx;have e2:=ex_must [58,61] s;generalize mMust [58,61] s=s2 at *;have h3:=fun y hy=>exprS (TA:=TA) (L:=L) c N s2 y (by have:=e2.ln;omega) (hg.ex e2) (by have:=e2.w;omega) hy
  have e3:=e2.tr (k:=0) (ex_expr N s2);generalize mExpr N s2=r at *;obtain ⟨rn,s3⟩:=r;dsimp only at *;have w3:=e3.w;have h4:=fun y hy=>storeC (TA:=TA) (L:=L) c s3 y t rn (by have:=wt_code (Int.le_refl (wt s3));omega) (by have:=wt_pats (Int.le_refl (wt s3));omega) hy
  have e4:=e3.tr (k:=2) (ex_store t rn s3);generalize mStore t rn s3=s4 at *;have h5:=fun y hy=>giveC (TA:=TA) (L:=L) c s4 y (hg.ex e4).tk hy
  generalize mGive s4=s5 at *;replace h2:=uh h2;replace h3:=uh h3;replace h4:=uh h4;replace h5:=uh h5;refine ug ?_;refine fn_intro Tryz.func222 Tryz.ntmps222 rfl rfl rfl (fun w0=>?_);refine rrs ?_;intro b1 _;refine rr ?_;refine cl (h2) ?_;intro z hz;refine rrs ?_;refine dr [0,1,2,3,4] [1] [7] ?_;refine rr ?_;refine cld (h3 z hz) ?_;intro y hy;refine rrs ?_;refine cld (h4 y hy) ?_;intro z hz;refine rrs ?_;refine cl (h5 z hz) ?_;intro y hy;refine rrs ?_;exact en y hy
theorem callC (c N:Nat) (t:Th) (s:CS) (x:Ad) (hn:s.toks.length<N) (hg:Gd s) (hw:wt s+4≤1000000000000) (hx:OkX TA L s x):FnC Tryz.prog 221 [cP c,thG t] (cmH c s x) [tkB TA L,spaceV] (fun _=>.tuple #[]) (fun y:Ad=>cmH c (mCall N t s) y) (fun y=>OkX TA L (mCall N t s) y):=by
 have eA:=ex_arg N t s;have wA:=eA.w;unfold mCall;have h7:=fun y hy=>markC (TA:=TA) (L:=L) c (mArg N t s) y ⟨18,0,0,0,0⟩ 2 t.pl (by have:=wt_code (Int.le_refl (wt (mArg N t s)));omega) (by have:=wt_pats (Int.le_refl (wt (mArg N t s)));omega) hy
 have h8:=fun y hy=>backC (TA:=TA) (L:=L) c (mArg N t s) y ⟨18,0,0,0,0⟩ t.pl (by decide) (by have:=wt_code (Int.le_refl (wt (mArg N t s)));omega) (by have:=wt_pats (Int.le_refl (wt (mArg N t s)));omega) hy
 generalize mMark ⟨18,0,0,0,0⟩ 2 t.pl (mArg N t s)=s7 at *;generalize mBack ⟨18,0,0,0,0⟩ t.pl (mArg N t s)=s8 at *;cases hta:t.takes with
 | true=>
  have hA:mArg N t s=mGive (mPut ⟨1,4,(mExpr N (mMust [40] s)).1,0,0⟩ (mMust [41] (mExpr N (mMust [40] s)).2)):=by unfold mArg;rw [if_pos hta]
  rw [hA] at h7 h8;clear hA eA wA;have h1:=mustC (TA:=TA) (L:=L) c s x [40] hx;have e1:=ex_must [40] s;generalize mMust [40] s=s1 at *;have h2:=fun y hy=>exprS (TA:=TA) (L:=L) c N s1 y (by have:=e1.ln;omega) (hg.ex e1) (by have:=e1.w;omega) hy
  have e2:=e1.tr (k:=0) (ex_expr N s1);generalize mExpr N s1=r at *;obtain ⟨rn,s2⟩:=r;dsimp only at *;have h3:=fun y hy=>mustC (TA:=TA) (L:=L) c s2 y [41] hy
  have e3:=e2.tr (k:=0) (ex_must [41] s2);generalize mMust [41] s2=s3 at *;have w3:=e3.w;have h4:=fun y hy=>putC (TA:=TA) (L:=L) c s3 y ⟨1,4,rn,0,0⟩ (by have:=wt_code (Int.le_refl (wt s3));omega) hy
  have e4:=e3.tr (k:=1) (ex_put ⟨1,4,rn,0,0⟩ s3);generalize mPut ⟨1,4,rn,0,0⟩ s3=s4 at *;have h5:=fun y hy=>giveC (TA:=TA) (L:=L) c s4 y (hg.ex e4).tk hy
  generalize mGive s4=s5 at *;by_cases hk:t.kind=4
  ·simp only [if_pos hk];clear h8;replace h1:=uh h1;replace h2:=uh h2;replace h3:=uh h3;replace h4:=uh h4;replace h5:=uh h5;replace h7:=uh h7;refine ug ?_;rw [hta];refine fn_intro Tryz.func221 Tryz.ntmps221 rfl rfl rfl (fun w0=>?_);refine rrs ?_;intro b1 _;refine rr ?_;refine cl (h1) ?_;intro y hy;refine rrs ?_;refine cl (h2 y hy) ?_;intro z hz;refine rrs ?_;refine cl (h3 z hz) ?_;intro y hy;refine rrs ?_;refine cl (h4 y hy) ?_;intro z hz;refine rrs ?_;refine cl (h5 z hz) ?_;intro y hy;refine rrs ?_;refine dx [0,1,2,3,4,5,6] [] [] ?_;refine rr ?_;refine cle (h7 y hy) ?_;intro z hz;refine rrs ?_;exact en z hz
  ·simp only [if_neg hk];clear h7;replace h1:=uh h1;replace h2:=uh h2;replace h3:=uh h3;replace h4:=uh h4;replace h5:=uh h5;replace h8:=uh h8;refine ug ?_;rw [hta];refine fn_intro Tryz.func221 Tryz.ntmps221 rfl rfl rfl (fun w0=>?_);refine rrs ?_;intro b1 _;refine rr ?_;refine cl (h1) ?_;intro y hy;refine rrs ?_;refine cl (h2 y hy) ?_;intro z hz;refine rrs ?_;refine cl (h3 z hz) ?_;intro y hy;refine rrs ?_;refine cl (h4 y hy) ?_;intro z hz;refine rrs ?_;refine cl (h5 z hz) ?_;intro y hy;refine rrs ?_;refine dx [0,1,2,3,4,5,6] [] [] ?_;refine rr ?_;refine cle (h8 y hy) ?_;intro z hz;refine rrs ?_;exact en z hz
 | false=>
  have hA:mArg N t s=s:=by unfold mArg;rw [if_neg (by rw [hta];decide)]
  rw [hA] at h7 h8;by_cases hk:t.kind=4
  ·simp only [if_pos hk];clear h8;replace h7:=uh h7;refine ug ?_;rw [hta];refine fn_intro Tryz.func221 Tryz.ntmps221 rfl rfl rfl (fun w0=>?_);refine rrs ?_;intro b1 _;refine rr ?_;refine dx [0,1,2,3,4,5,6] [] [] ?_;refine rr ?_;refine cle (h7 x hx) ?_;intro z hz;refine rrs ?_;exact en z hz
  ·simp only [if_neg hk];clear h7;replace h8:=uh h8;refine ug ?_;rw [hta];refine fn_intro Tryz.func221 Tryz.ntmps221 rfl rfl rfl (fun w0=>?_);refine rrs ?_;intro b1 _;refine rr ?_;refine dx [0,1,2,3,4,5,6] [] [] ?_;refine rr ?_;refine cle (h8 x hx) ?_;intro z hz;refine rrs ?_;exact en z hz
end
end Go.Proofs.YtkolmklfgbimoaaGreatDoor.Cm
