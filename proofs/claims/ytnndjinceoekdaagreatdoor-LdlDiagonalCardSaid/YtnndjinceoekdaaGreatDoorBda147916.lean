/-
  Parts of the proof: Fw25, Fw36, Fw46, Fw47, Pl1, Fs, Dn20, Dn21, TwS, Dn20b, Dn22, Dn24a, Dn24, Dn25, Dn25b, Tw25, Ok25: the framework (Fw), pure forms (Dn), plain laws (Pl, Th), calls of functions (Ok).
-/
import Derived.ProofKit
import Derived.Handed
import Derived.KernelRfl
import Derived.Lib.SlicesCompact
import Derived.RangeFuncBox
import Derived.RangeFuncLeaves
import Derived.Shelf.Abstract
import Derived.WalkKit
import Derived.OwnWalkIn
import Derived.TacticsInMore
import Derived.LoopNIn
import Derived.LoopIn
import Derived.Maps.AppendAt
import Derived.Shelf.Slices.CompactI
import Derived.Lib.OwnBridge
import Derived.Test.YtnndjinceoekdaaGreatDoorProg
import Derived.Test.YtnndjinceoekdaaGreatDoorB922e42cc

set_option linter.all false
set_option maxHeartbeats 1000000
open _root_ renaming Nat->X,List->bm,Int->Z,rfl->bn,Option->bv,cond_true->bG,congrArg->b3,Array->bU,Bool->bA,if_true->cg,False->b5,Unit->bt,cond->bw,and_true->b8
open Go renaming World->bD,ResultVar->ahj,TypeId->bF,Exit->b4,Code->cr,Oper->bQ,Program->b0,Field->ahC,MemPlace->aiQ,Fence->aie,CallsIn->ah6,callsIn_of_wp->aiV,undef->bW
open Option renaming none->bo,some->Y,bind_eq_some_iff->ait,isSome_iff_exists->akp,bind->bB
open Nat renaming beq->bI,blt->ca,ble->b2,reduceAdd->aiv,reduceSub->aiw,mul_one->aiM
open List renaming length->ahn,range->bH,getElem?_eq_none->aiT,getElem?_eq_getElem->bR,replicate->bJ
open Option.some renaming inj->ah0
open Bool renaming true->bp,false->bq
open ByteArray renaming empty->ajH
open Go.Program renaming cellsOf->alR
open Go.Addr renaming add->aj1
open Go.World renaming cell?->aio,frozen?->ajM
open Go.DataW renaming trod->akX,TrodAll->aiS
open Go.jm.ai renaming size->ahE
open Go.Value renaming okWide->aiR,bool->alU,int->ahr,oneCell'->ahA
open Go.WideShapes renaming okWide_int->amT,okWide_bool->amU,okWide_string->amV,okWide_slice->amW
open Go.ChangeShapes renaming trodAll_cons->akY,trodAll_mk1->amY,trodAll_append->amZ
open Go.jm.c5 renaming refl->cp
open Go.WideElems renaming Trod_stays->amX
open Array renaming toArray_toList->alS
open Go.MemPlace renaming cell->alT
open Decidable renaming decide->br
open Go.IntKind renaming i64->bK,wrap->aiU,u64->bC,u32->cb,u8->akZ
open Go.Lib renaming compact->ah5
open Go.Proofs.Tryz renaming prog->cn,underlying23->alV,func317->ak0,ntmps317->alW,func266->aj2
open Go.RowKit.Below renaming refl->ajh
open Go.Boxed renaming new->alX
open Go.Sort renaming ahead->alY
noncomputable section
namespace Go.jm
variable{a:X}{b:Value}{c:bm hq}{d:bm ai}{e:Type}{f:bD}{g:Z}{h:bm ahj}{i:eD->X->Prop}{j:Func}{k:ahc}{l:X->Prop}
section
def ns:X->(f:bm hq)->hu f->bm (X×aj)
 |_,[],_=>[]
 |k,.v g::b,a=>(k,.val g a.1)::ns (k+1) b a.2
 |k,.m _::b,a=>(k,.ref k [])::ns (k+1) b a.2
 |k,.o _::b,a=>(k,.ref k [])::ns (k+1) b a.2
 |k,.c e h::b,a=>(k,.eA e ((iY h a.1).map λd=>.val d.1 d.2))::ns (k+1) b a.2
 |k,.n::b,a=>(k,.df (.slice bo 0 0))::ns (k+1) b a.2
 |k,.w _::b,a=>(k,.view k [] a.1.2.1 a.1.2.2)::ns (k+1) b a.2
 |k,.s _ _::b,a=>ns (k+1) b a.2
def nt:X->(e:bm hq)->hu e->bm (X×aD)
 |_,[],_=>[]
 |k,.v _::b,a=>nt (k+1) b a.2
 |k,.m d::b,a=>(k,⟨d,a.1⟩)::nt (k+1) b a.2
 |k,.o d::b,a=>(k,⟨d,a.1⟩)::nt (k+1) b a.2
 |k,.c _ _::b,a=>nt (k+1) b a.2
 |k,.n::b,a=>nt (k+1) b a.2
 |k,.w f::b,a=>(k,⟨.osl f,a.1.1⟩)::nt (k+1) b a.2
 |k,.s _ _::b,a=>nt (k+1) b a.2
def j1:X->bm hq->ahb
 |_,[]=>[]
 |k,.m _::a=>k::j1 (k+1) a
 |k,.v _::a=>j1 (k+1) a
 |k,.o _::a=>j1 (k+1) a
 |k,.c _ _::a=>j1 (k+1) a
 |k,.n::a=>j1 (k+1) a
 |k,.w _::a=>k::j1 (k+1) a
 |k,.s _ _::a=>j1 (k+1) a
def FQ {r:Type}:∀{k:X} {ps:bm hq} {a:hu ps} {b:iS ps r},jK k (gK ps a b)=ns k ps a/\kc k (gK ps a b)=nt k ps a/\hT k (gK ps a b)=j1 k ps/\(gK ps a b).length=ps.length
 |k,[],a,b=>⟨bn,bn,bn,bn⟩
 |k,i::h,a,b=>by
  have g:=λa b=>FQ (r:=r) (k:=k+1) (ps:=h) (a:=a) (b:=b);cases i
  case m=>
   obtain⟨c,d,e,f⟩:=g a.2 b.2;simp only[gK,jK,kc,hT,ns,nt,j1,jc,c,d,e,f,and_self]
  case w=>
   obtain⟨c,d,e,f⟩:=g a.2 b.2;simp only[gK,jK,kc,hT,ns,nt,j1,jc,c,d,e,f,and_self]
  all_goals obtain⟨c,d,e,f⟩:=g a.2 b;simp only[gK,jK,kc,hT,ns,nt,j1,jc,c,d,e,f,and_self]
def EK (tt:bm (bF×ai)) (e:aM) (b:ai):ahj->bv (b.den×ahb)
 |.tmp k=>match gt e.g k with
  |.val _ l=>(h2 b l).bind λa=>Y (a,[])
  |.df f=>bif pT b f then(iQ b f.cells.toList).bind λa=>Y (a,[]) else bo
  |.ref id d=>match aq e.h id with
   |some c=>(h4 c.1 c.2 d b).bind λa=>Y (a,[id])
   |none=>bo
  |_=>bo
 |.cell j i=>match aq tt i with
  |some m=>bif a9 m b then match gt e.g j with
   |.ref id d=>match aq e.h id with
    |some c=>match fk c.1 d with
     |some (.optr _)=>(h4 c.1 c.2 (d++[.deref]) b).bind λa=>Y (a,[id])
     |_=>bo
    |none=>bo
   |_=>bo else bo
  |none=>bo
def EJ (tt:bm (bF×ai)) (c:aM):bm ahj->(a:bm ai)->bv (lD a×ahb)
 |[],[]=>Y ((),[])
 |r::f,e::a=>bif e.fY then(EK tt c e r).bind λd=>(EJ tt c f a).map λb=>((d.1,b.1),d.2++b.2) else bo
 |_,_=>bo
theorem abW {E:fy} {f:aM} {c:ai} {b:ahj} {d:c.den×ahb} (a:EK E.tt f c b=Y d):r3 E.P f ⟨c,d.1⟩ b d.2:=by
 cases b with
 |tmp b=>
  simp only[EK] at a;simp only[r3];split at a
  ·grind [kf,ait]
  ·grind [ait,pT.ok]
  ·grind [iR,ait]
  grind
 |cell j h=>
  simp only[EK] at a;simp only[r3];split at a
  case h_2=>cases a
  rename_i g i;cases e:a9 g c with
  |false=>grind
  |true=>
  rw[e] at a;refine⟨(E.ok h g i).lay e,?_⟩;simp only[bG] at a;grind [iR,ait]
theorem PN {E:fy} {f:aM}:∀{d:bm ahj} {c:bm ai} {b:lD c×ahb},EJ E.tt f d c=Y b->tO E.P f d (iY c b.1) b.2
 |[],[],b,a=>by cases a;rfl
 |[],_::_,b,a=>by cases a
 |_::_,[],b,a=>by cases a
 |r::d,k::c,b,a=>by
  simp only[EJ] at a;cases e:k.fY with
  |false=>grind
  |true=>
  rw[e] at a;simp only[bG] at a;obtain⟨j,h,a⟩:=eO.1 a;obtain⟨i,g,rfl⟩:=fB.1 a;exact⟨e,j.2,i.2,bn,abW h,PN g⟩
def pc (
 st:aM) {t:Type} (d:bv t):X->(r:bm hq)->hu r->bv (iS r t)
 |_,[],_=>d
 |k,.v _::b,a=>pc st d (k+1) b a.2
 |k,.o _::b,a=>pc st d (k+1) b a.2
 |k,.c _ _::b,a=>pc st d (k+1) b a.2
 |k,.n::b,a=>pc st d (k+1) b a.2
 |k,.s _ _::b,a=>pc st d (k+1) b a.2
 |k,.m l::b,a=>bif sb (.ref k []) (gt st.g k)&&(l.fY&&rK l) then match aq st.h k with
  |some j=>match h2 l j.2 with
   |some e=>(pc st d (k+1) b a.2).map λi=>(e,i)
   |none=>bo
  |none=>bo else bo
 |k,.w f::b,a=>match gt st.g k with
  |.view u [] q p=>bif bI k u&&f.fY then match aq st.h k with
   |some j=>match h2 (.osl f) j.2 with
    |some e=>bif bI q a.1.2.1&&(bI p a.1.2.2&&(bI (ahn (α:=f.den) e) (ahn (α:=f.den) a.1.1)&&ca q p)) then(pc st d (k+1) b a.2).map λi=>(e,i) else bo
    |none=>bo
   |none=>bo else bo
  |_=>bo
theorem s4 {y:aM} {C:Type} {B:bv C}:∀{k:X} {ps:bm hq} {a:hu ps} {d:iS ps C},pc y B k ps a=Y d->pF y k (gK ps a d)/\B=Y (it ps d)
 |k,[],a,d,b=>⟨trivial,b⟩
 |k,.v _::e,a,d,b=>s4 (ps:=e) b
 |k,.o _::e,a,d,b=>s4 (ps:=e) b
 |k,.c _ _::e,a,d,b=>s4 (ps:=e) b
 |k,.n::e,a,d,b=>s4 (ps:=e) b
 |k,.s _ _::e,a,d,b=>s4 (ps:=e) b
 |k,.m E::e,a,d,b=>by
  simp only[pc] at b;cases f:(sb (.ref k []) (gt y.g k)&&(E.fY&&rK E)) with
  |false=>grind
  |true=>
  rw[f] at b;simp only[cC] at f;simp only[bG] at b;split at b
  case h_2=>cases b
  rename_i J t;split at b
  case h_2=>cases b
  rename_i D u;obtain⟨I,r,rfl⟩:=fB.1 b;obtain⟨j,l⟩:=s4 (a:=a.2) r;refine⟨⟨⟨(sb.ok f.1).symm,?_,f.2.1,f.2.2⟩,j⟩,l⟩;rw[t];exact b3 Y (kf u)
 |k,.w z::e,a,d,b=>by
  simp only[pc] at b;split at b
  case h_2=>cases b
  rename_i H x q G;cases f:(bI k H&&z.fY) with
  |false=>grind
  |true=>
  rw[f] at b;simp only[cC] at f;obtain rfl:=fu f.1;simp only[bG] at b;split at b
  case h_2=>cases b
  rename_i J t;split at b
  case h_2=>cases b
  rename_i D u;cases p:(bI x a.1.2.1&&(bI q a.1.2.2&&(bI (ahn (α:=z.den) D) (ahn (α:=z.den) a.1.1)&&ca x q))) with
  |false=>grind
  |true=>
  rw[p] at b;simp only[cC] at p;obtain⟨h,i,F,A⟩:=p;have h:=fu h;have i:=fu i;have A:x<q:=gV A;obtain⟨I,r,rfl⟩:=fB.1 b;obtain⟨j,l⟩:=s4 (a:=a.2) r;refine⟨⟨⟨by rw[G,h,i],?_,⟨f.2,aa⟩,fu F⟩,j⟩,l⟩;rw[t];exact b3 Y (kf u)
def Du (tt:bm (bF×ai)) (a:bm hq) (f:bm ahj) (d:bm ai) (e:hu a) (c:aM):bv (iS a (lD d)):=
 match EJ tt c f d with
 |some b=>bif jz (j1 0 a++b.2) then pc c (Y b.1) 0 a e else bo
 |none=>bo
theorem MG {E:fy} {j:aM} {e:hu c} {f:iS c (lD d)} {g:b4} (m:g=.normal\/g=.ret) (b:Du E.tt c h d e j=Y f):Kr E.P (gK c e f) h (iY d (it c f)) g j:=by
 unfold Du at b;split at b
 case h_2=>cases b
 rename_i i o;cases l:jz (j1 0 c++i.2) with
 |false=>grind
 |true=>
 rw[l] at b;simp only[bG] at b;obtain⟨k,n⟩:=s4 (a:=e) b;refine⟨m,i.2,?_,?_,k⟩
 ·grind [PN,ah0]
 simp_all [FQ]
def MH (tt:bm (bF×ai)) (a:bm hq) (e:bm ahj) (c:bm ai) (d:hu a):b4->aM->bv (iS a (lD c))
 |.normal,b=>Du tt a e c d b
 |.ret,b=>Du tt a e c d b
 |_,_=>bo
def zS (c:gU) (e:md) (f:cr) (a:bm hq) (g:bm ahj) (d:bm ai) (b:hu a):bv (iS a (lD d)):=
 hM c e f ⟨ns 0 a b,nt 0 a b⟩ _ (MH c.tt a g d b)
section
variable {E:fy}
theorem aI.Ow {g:X} {e:bm hq} {i:hu e->bv (iS e (lD d))} (n:bm (X×jF)) (r:bm (X×ai)) (o:ahd) (w:md) (aB:ag4) (F:∀v∈aB,ye E.P v) (D:E.P.funcs[g]?=Y j) (O:j.body.isSome=bp) (I:j.results=h.toArray) (R:b2 e.length j.ntmps=bp) (C:∀(s:ag3) (t:bD),(callFunc g s).run E.P t=.ok (.enter g s) t) (J:∀K∈n,aI E K.2) (A:∀f,zS ⟨E.tt,n,r,j.ntmps,j1 0 e++nP (jC 0 e),[],o,jC 0 e,aB,[],E.glob,E.eqs⟩ w (j.body.getD .skip) e h d f=i f):aI E ⟨g,e,d,i⟩:=by
 refine⟨C,λf u p=>?_⟩;rw[show(jF.mk g e d i).xU f=i f from rfl,<-A f] at p;obtain⟨ao,y,z,N⟩:=FQ (k:=0) (ps:=e) (a:=f) (b:=u);refine rO.XZ D (c:=j.body.getD .skip) (by cases Q:j.body with|none=>grind|some L=>rfl) I (by simp_all) ?_;intro M B l H q G;rw[ao,y];rw[AJ] at l q;rw[z] at l;refine l3 (ic:=⟨E.tt,n,r,j.ntmps,j1 0 e++nP (jC 0 e),[],o,jC 0 e,aB,[],E.glob,E.eqs⟩) ⟨bn,B.symm,l.symm,⟨J,q,F,G,bn,bn⟩,px.nil H⟩ p ?_;intro x S m;cases x with
 |normal=>exact MG (.inl bn) m
 |ret=>exact MG (.inr bn) m
 |_=>cases m
def aI.of {fn:Func} {rs:bm ahj} {j:hu c->bv (iS c (lD d))} (e:bm (X×jF)) (i:bm (X×ai)) (h:ahd) (g:md) (o:E.P.funcs[a]?=Y fn) (m:fn.body.isSome=bp) (q:fn.results=rs.toArray) (p:b2 c.length fn.ntmps=bp) (n:∀(k:ag3) (l:bD),(callFunc a k).run E.P l=.ok (.enter a k) l) (r:∀s∈e,aI E s.2) (b:∀f,zS ⟨E.tt,e,i,fn.ntmps,j1 0 c++nP (jC 0 c),[],h,jC 0 c,[],[],E.glob,E.eqs⟩ g (fn.body.getD .skip) c rs d f=j f):aI E ⟨a,c,d,j⟩:=
 aI.Ow e i h g [] (λ_ b=>by cases b) o m q p n r b
def ES:cr->cr
 |.seq a _=>a
 |c=>c
def Qo:cr->cr
 |.seq _ a=>a
 |c=>c
def ve (a:X):cr->bv (bU bQ)
 |.region d e _=>if d=a then Y e else bo
 |.seq b c=>(ve a b).orElse λ_=>ve a c
 |.cond _ b c=>(ve a b).orElse λ_=>ve a c
 |.block _ b=>ve a b
 |.loop b=>ve a b
 |_=>bo
def HP {b:gU} {k:Type} {c:bU bQ} {f:ahb} {d:aM->bv k}:∀(j:ahb) (g:aM),kZ b c (j++f) g d=kZ b c j g λa=>kZ b c f a d
 |[],g=>rfl
 |i::e,g=>by
  have h:(λa=>kZ b c (e++f) a d)=λa=>kZ b c e a λa=>kZ b c f a d:=funext λa=>HP e a;simp only[nW,kZ];split
  ·rfl
  split
  ·rw[h]
  simp only[h,HP e]
def VC {b:b0} {tt:bm (bF×ai)} (i:∀c f,aq tt c=Y f->fi b f c) {a:tQ} {S:bF} (g:b.underlying a.T=Y (.array a.xs.length S)) (h:aq tt S=Y (.int a.k)):∀e∈[a],KF b e:=λe d=>by rw[gj] at d;subst d;exact⟨S,g,i _ _ h⟩
def QX:∀b∈([]:bm (X×jF)),aI E b.2:=λ_ a=>by cases a
theorem adl {c:jF} {d:bm (X×jF)} (f:aI E c) (g:∀b∈d,aI E b.2):∀b∈(a,c)::d,aI E b.2:=λb e=>by grind
end
def vA:Value->Value->bA
 |.int c a,.int d b=>if c=d/\a=b then bp else bq
 |.bool a,.bool b=>a==b
 |.string a,.string b=>a.data.toList.isEmpty&&b.data.toList.isEmpty
 |.slice bo 0 0,.slice bo 0 0=>bp
 |.map bo,.map bo=>bp
 |.pointer bo,.pointer bo=>bp
 |.nilFunc,.nilFunc=>bp
 |_,_=>bq
def SV {a:ByteArray} (c:a.data.toList.isEmpty=bp):a=ajH:=by
 cases a with|mk b=>cases b with|mk d=>cases d with
  |nil=>rfl
  |cons=>cases c
theorem vA.ok {c:Value} (a:vA b c=bp):b=c:=by
 unfold vA at a;split at a
 ·grind
 ·rw[beq_iff_eq.1 a]
 ·simp_all [SV,cC]
 ·rfl
 ·rfl
 ·rfl
 ·rfl
 cases a
def vB:ag5->ag5->bA
 |[],[]=>bp
 |a::c,b::d=>vA a b&&vB c d
 |_,_=>bq
theorem vB.ok:∀{c d:ag5},vB c d=bp->c=d
 |[],[],_=>rfl
 |[],_::_,b=>by cases b
 |_::_,[],b=>by cases b
 |a::c,e::d,b=>by simp only[vB,cC] at b;rw[vA.ok b.1,vB.ok b.2]
def jw (b:b0) (c:bF) (d:X) (f:Value):bA:=match b.info? c with
 |some a=>bI a.size 1&&b2 a.bytes d&&(match a.zero with|some e=>vA e f|none=>bq)
 |none=>bq
theorem jw.ok {d:b0} {e:bF} {f:X} {g:Value} (b:jw d e f g=bp):∃a,d.info? e=Y a/\a.size=1/\a.bytes<=f/\a.zero=Y g:=by
 unfold jw at b;split at b
 case h_2=>cases b
 rename_i a j;simp only[cC] at b;obtain⟨⟨h,i⟩,c⟩:=b;split at c
 case h_2=>cases c
 rename_i l k;exact⟨a,j,fu h,gV i,by rw[k,vA.ok c]⟩
mutual
def hY (b:b0):ai->bF->bA
 |.int g,a=>jw b a 24 (.int g 0)&&(match b.underlying a with|some (.int j)=>if j=g then bp else bq|_=>bq)
 |.bool,a=>jw b a 24 (.bool bq)&&(match b.underlying a with|some .bool=>bp|_=>bq)
 |.str,a=>jw b a 24 (.string ajH)&&(match b.underlying a with|some .string=>bp|_=>bq)
 |.a6 _ c,a=>jw b a 24 (.slice bo 0 0)&&(match b.underlying a with|some (.slice d)=>hY b c d|_=>bq)
 |.osl c,a=>jw b a 24 (.slice bo 0 0)&&(match b.underlying a with|some (.slice d)=>hY b c d|_=>bq)
 |.ptr _ c,a=>jw b a 24 (.pointer bo)&&(match b.underlying a with|some (.pointer d)=>hY b c d|_=>bq)
 |.optr c,a=>jw b a 24 (.pointer bo)&&(match b.underlying a with|some (.pointer d)=>hY b c d|_=>bq)
 |.mp c,a=>jw b a 24 (.map bo)&&(match b.underlying a with|some (.map e d)=>(match b.underlying e with|some (.int .i64)=>hY b c d|_=>bq)|_=>bq)
 |.fw _ c,a=>jw b a 24 (.map bo)&&(match b.underlying a with|some (.map e d)=>(match b.underlying e with|some (.int .i64)=>hY b c d|_=>bq)|_=>bq)
 |.fn _ _,a=>jw b a 24 .nilFunc&&(match b.underlying a with|some (.func _ _ _)=>bp|_=>bq)
 |.st c,a=>ca 0 c.size&&match b.info? a with
  |some f=>bI f.size c.size&&b2 f.bytes (24*c.size)&&(match f.zero with
   |some (.agg h)=>bI h.size c.size&&(match b.underlying a with|some (.struct i)=>sI b c i.toList 0 h.toList|_=>bq)
   |_=>bq)
  |none=>bq
 |_,_=>bq
def sI (c:b0):ai->bm ahC->X->ag5->bA
 |.pr a f,d::h,e,b=>bI d.offset e&&hY c a d.type&&ca 0 a.size&&(match c.info? d.type with|some g=>(match g.zero with|some i=>vB (b.take a.size) i.cells.toList|none=>bq)|none=>bq)&&sI c f h (e+a.size) (b.drop a.size)
 |.nil,[],_,b=>b.isEmpty
 |_,_,_,_=>bq
end
mutual
theorem hY.ok {n:b0}:∀{o:ai} {i:bF},hY n o i=bp->fi n o i
 |.int z,i,a=>by
  simp only[hY,cC] at a;obtain⟨c,b⟩:=a;obtain⟨e,ax,f,g,h⟩:=jw.ok c;split at b
  ·rename_i A d;split at b
   ·rename_i p;subst p;exact⟨e,ax,f,g,h,d⟩
   grind
  grind
 |.bool,i,a=>by
  simp only[hY,cC] at a;obtain⟨c,b⟩:=a;obtain⟨e,ax,f,g,h⟩:=jw.ok c;split at b
  ·rename_i d;exact⟨e,ax,f,g,h,d⟩
  grind
 |.str,i,a=>by
  simp only[hY,cC] at a;obtain⟨c,b⟩:=a;obtain⟨e,ax,f,g,h⟩:=jw.ok c;split at b
  ·rename_i d;exact⟨e,ax,f,g,h,d⟩
  grind
 |.a6 _ k,i,a=>by
  simp only[hY,cC] at a;obtain⟨c,b⟩:=a;obtain⟨e,ax,f,g,h⟩:=jw.ok c;split at b
  ·rename_i j d;exact⟨e,j,ax,f,g,h,d,hY.ok b⟩
  grind
 |.osl k,i,a=>by
  simp only[hY,cC] at a;obtain⟨c,b⟩:=a;obtain⟨e,ax,f,g,h⟩:=jw.ok c;split at b
  ·rename_i j d;exact⟨e,j,ax,f,g,h,d,hY.ok b⟩
  grind
 |.ptr _ k,i,a=>by
  simp only[hY,cC] at a;obtain⟨c,b⟩:=a;obtain⟨e,ax,f,g,h⟩:=jw.ok c;split at b
  ·rename_i j d;exact⟨e,j,ax,f,g,h,d,hY.ok b⟩
  grind
 |.optr k,i,a=>by
  simp only[hY,cC] at a;obtain⟨c,b⟩:=a;obtain⟨e,ax,f,g,h⟩:=jw.ok c;split at b
  ·rename_i j d;exact⟨e,j,ax,f,g,h,d,hY.ok b⟩
  grind
 |.mp k,i,a=>by
  simp only[hY,cC] at a;obtain⟨c,b⟩:=a;obtain⟨e,ax,f,g,h⟩:=jw.ok c;split at b
  ·rename_i l j d;split at b
   ·rename_i m;exact⟨e,l,j,ax,f,g,h,d,m,hY.ok b⟩
   grind
  grind
 |.fw _ k,i,a=>by
  simp only[hY,cC] at a;obtain⟨c,b⟩:=a;obtain⟨e,ax,f,g,h⟩:=jw.ok c;split at b
  ·rename_i l j d;split at b
   ·rename_i m;exact⟨e,l,j,ax,f,g,h,d,m,hY.ok b⟩
   grind
  grind
 |.fn _ _,i,a=>by
  simp only[hY,cC] at a;obtain⟨c,b⟩:=a;obtain⟨e,ax,f,g,h⟩:=jw.ok c;split at b
  ·rename_i v w x d;exact⟨e,v,w,x,ax,f,g,h,d⟩
  grind
 |.st k,i,a=>by
  simp only[hY,cC] at a;obtain⟨r,a⟩:=a;split at a
  case h_2=>cases a
  rename_i e t;simp only[cC] at a;obtain⟨⟨c,b⟩,a⟩:=a;split at a
  case h_2=>cases a
  rename_i y u;simp only[cC] at a;obtain⟨s,a⟩:=a;split at a
  case h_2=>cases a
  rename_i q d;exact⟨gV r,e,q,y,t,fu c,gV b,u,d,sI.ok a,fu s⟩
 |.pr _ _,_,a=>by cases a
 |.nil,_,a=>by cases a
 |.eK,_,a=>by cases a
theorem sI.ok {f:b0}:∀{g:ai} {b:bm ahC} {d:X} {c:ag5},sI f g b d c=bp->iI f g b d c
 |.pr h i,[],d,c,a=>by cases a
 |.pr h i,r::s,d,c,a=>by
  simp only[sI,cC] at a;obtain⟨⟨⟨⟨j,k⟩,l⟩,e⟩,m⟩:=a;split at e
  case h_2=>cases e
  rename_i p n;split at e
  case h_2=>cases e
  rename_i q o;exact⟨fu j,hY.ok k,gV l,⟨p,q,n,o,vB.ok e⟩,sI.ok m⟩
 |.nil,[],d,c,a=>by have a:c=[]:=(by grind [sI]);exact a
 |.nil,_::_,d,c,a=>by cases a
 |.int _,b,d,c,a=>by cases b<;>cases a
 |.bool,b,d,c,a=>by cases b<;>cases a
 |.str,b,d,c,a=>by cases b<;>cases a
 |.a6 _ _,b,d,c,a=>by cases b<;>cases a
 |.ptr _ _,b,d,c,a=>by cases b<;>cases a
 |.osl _,b,d,c,a=>by cases b<;>cases a
 |.optr _,b,d,c,a=>by cases b<;>cases a
 |.st _,b,d,c,a=>by cases b<;>cases a
 |.eK,b,d,c,a=>by cases b<;>cases a
end
theorem Q6 {e:b0}:∀{tt:bm (bF×ai)},(tt.all λf=>hY e f.2 f.1)=bp->∀a b,aq tt a=Y b->fi e b a
 |[],_,_,_,c=>by cases c
 |(k,g)::r,c,a,b,d=>by
  simp only[rU,cC] at c;rw[dg] at d;split at d
  ·grind [hY.ok]
  exact Q6 (by grind) a b d
def Hn (a:b0):ag4->bA
 |[]=>bp
 |T::d=>!a.stoodInHeld T&&(!a.eqGuardType a.depth T&&((match a.underlying T with|some (.struct c)=>c.toList.all λb=>b.name !="_"|_=>bq)&&Hn a d))
def Mu {e:b0}:∀{d:ag4},Hn e d=bp->∀b∈d,Kp e b
 |[],_,b,a=>by cases a
 |U::d,f,b,a=>by
  simp only[Hn,cC,tv] at f;obtain⟨h,i,c,j⟩:=f;rcases fR.1 a with rfl|a
  ·split at c
   ·rename_i g k;exact⟨h,i,g,k,c⟩
   cases c
  exact Mu j b a
end
section
def pH:(i:ai)->i.den->Prop
 |.int g,h=>(Lit.int g h).wf=bp
 |.a6 _ b,c=>c.length<=maxLen/\∀a∈c,pH b a
 |.ptr _ b,a=>∀d,a=Y d->pH b d
 |.st b,a=>pH b a
 |.pr e f,a=>pH e a.1/\pH f a.2
 |_,_=>True
def sa:ai->bA
 |.int _|.bool|.str|.nil=>bp
 |.a6 _ a|.ptr _ a|.st a=>sa a
 |.pr b c=>sa b&&sa c
 |_=>bq
def F6 {P:b0} {c:ai} {a:bF} (d:fi P c a):P.cellsOf a=c.size:=by obtain⟨f,e,b,_⟩:=d.info;unfold alR;rw[b.info];simp[b.size]
section
variable {A:Type} {enc:bF×Value->A} {P:b0} {w:bD}
theorem F7 {h:X} {b:Addr} {c:ag5} (d:w.cells? h b a=Y c) (f:0<a):b.spot=bo/\c.length=a/\b.block<w.heap.size/\fq w b.block b.off c:=by
 have l:=World.cells?_block d f;obtain⟨_,k,e⟩:=World.cells?_some d;have m:b.spot=bo:=by
  have o:=e 0 f;have:(w.cell? (b.add 0)).isSome=bp:=(by grind);simp only[aj1,cg] at this;unfold aio at this;split at this
  ·cases p:b.spot with
   |none=>rfl
   |some t=>grind
  grind
 refine⟨m,k,l,λg s i=>?_⟩;have j:g<a:=(by grind);have:=e g j;rw[i] at this;rw[<-this];congr 1;unfold aj1;obtain⟨n,q,r⟩:=b;grind
def Bd (w:bD):eD->X->Prop:=λ_ a=>a<w.heap.size
mutual
theorem E5:∀{τ:ai} {j:bF} {i:ag5} {l:X} {o:DataW A×bm aiQ},sa τ=bp->fi P τ j->akX enc P w 0 (λ_=>bp) bp l j i=Y o->∃a:τ.den,aS (Bd w) w τ i a []/\pH τ a
 |.int n,j,i,l,o,_,⟨b,_,_,_,_,h⟩,d=>by obtain⟨x,rfl,_,ad⟩:=DataW.trod_int h d;exact⟨x,⟨bn,bn⟩,ad⟩
 |.bool,j,i,l,o,_,⟨b,_,_,_,_,h⟩,d=>by obtain⟨y,rfl,_⟩:=DataW.trod_bool h d;exact⟨y,⟨bn,bn⟩,trivial⟩
 |.str,j,i,l,o,_,⟨b,_,_,_,_,h⟩,d=>by obtain⟨av,rfl,_,_⟩:=DataW.trod_string h d;exact⟨av,⟨bn,bn⟩,trivial⟩
 |.a6 an c,j,i,l,o,g,⟨b,O,_,_,_,_,h,m⟩,d=>by
  rcases DataW.trod_slice h d with⟨rfl,_⟩|⟨e,u,Q,F,ds,x,rfl,rfl,_,_,cv,bx,ce,K,_⟩
  ·exact⟨[],⟨bn,bo,0,bn,bd _,λ_=>rfl,.inl bn⟩,by grind,ac⟩
  have H:=F6 m;have L:=m.pos;have E:∀b,b<u->∃a:c.den,∃f:ag5,f.length=c.size/\w.cells? 0 (e.add (b*c.size)) c.size=Y f/\aS (Bd w) w c f a []/\pH c a:=by
   intro b v;have s:=K b v;have t:F[b]?=Y (F[b]'(by omega)):=bc _
   rw[t] at s;obtain⟨f,q,z⟩:=eO.1 s;rw[H] at q;obtain⟨a,k,r⟩:=E5 (τ:=c) g m z;exact⟨a,f,k.len,q,k,r⟩
  have U:∀n,n<=u->∃p:bm c.den,p.length=n/\∀(b:X) (a:c.den),p[b]?=Y a->∃f:ag5,f.length=c.size/\w.cells? 0 (e.add (b*c.size)) c.size=Y f/\aS (Bd w) w c f a []/\pH c a:=by
   intro n
   induction n with
   |zero=>simp_all
   |succ n am=>
    intro ci;obtain⟨p,s,t⟩:=am aa;obtain⟨a,f,q⟩:=E n aa;refine⟨p++[a],by grind,λb M D=>?_⟩;grind
  obtain⟨p,s,t⟩:=U u (bd _);refine⟨p,⟨bn,Y e,Q,by rw[s],aa,(λd=>by cases d),?_⟩,aa,λa k=>?_⟩
  ·cases u with
   |zero=>grind
   |succ u=>
    right;obtain⟨d0,bl,_,I,_⟩:=E 0 aa;have T:e.add (0*c.size)=e:=(by simp[aj1]);rw[T] at I;obtain⟨V,_,C,_⟩:=F7 I L;refine⟨e.block,e.off,by obtain⟨y,ap,a0⟩:=e;grind,C,λb a k=>?_⟩;obtain⟨f,a3,S,a4,_⟩:=t b a k;obtain⟨_,_,_,G⟩:=F7 S L;grind [ao,aj1]
  obtain⟨b,v,rfl⟩:=ho.1 k;obtain⟨_,_,_,_,r⟩:=t b _ (bc v);exact r
 |.ptr an c,j,i,l,o,g,⟨b,O,_,_,_,_,h,m⟩,d=>by
  rcases DataW.trod_pointer h d with⟨rfl,_⟩|⟨e,R,a,x,rfl,rfl,_,q,z⟩
  ·exact⟨bo,⟨bn,bn⟩,λa d=>by cases d⟩
  rw[F6 m] at q;obtain⟨M,D,r⟩:=E5 (τ:=c) g m z;obtain⟨V,_,C,G⟩:=F7 q m.pos;refine⟨Y M,⟨bn,e.block,e.off,R,by obtain⟨y,ap,a0⟩:=e;grind,C,D.len,G,D⟩,λa d=>by grind⟩
 |.st c,j,i,l,o,g,⟨_,b,N,d1,v,c1,_,_,h,J,_⟩,d=>by
  obtain⟨p,x,rfl,_,co,c2,K⟩:=DataW.trod_struct h d;have H:P.cellsOf j=c.size:=(by grind [alR]);obtain⟨a,k,r⟩:=Q4 (τ:=c) (fs:=N.toList) (cs:=i) g J aa (λdl bs J=>by
   grind)
  rw[lj] at k;exact⟨a,k,r⟩
 |.osl _,_,_,_,_,g,_,_=>by cases g
 |.optr _,_,_,_,_,g,_,_=>by cases g
 |.pr _ _,_,_,_,_,_,B,_=>B.elim
 |.nil,_,_,_,_,_,B,_=>B.elim
 |.eK,_,_,_,_,g,_,_=>by cases g
theorem Q4:∀{τ:ai} {fs:bm ahC} {c:X} {f cs:ag5},sa τ=bp->iI P τ fs c f->cs.length=c+τ.size->(∀(e:X) b,fs[e]?=Y b->∃(j:X) (k:DataW A×bm aiQ),akX enc P w 0 (λ_=>bp) bp j b.type ((cs.drop b.offset).take (P.cellsOf b.type))=Y k)->∃l:τ.den,aS (Bd w) w τ (cs.drop c) l []/\pH τ l
 |.pr y z,b::D,c,f,cs,d,p,r,i=>by simp only[sa,cC] at d;obtain⟨n,g,B,_,o⟩:=p;obtain⟨j,k,h⟩:=i 0 b bn;rw[n,F6 g] at h;obtain⟨v,s,t⟩:=E5 d.1 g h;obtain⟨x,C,u⟩:=Q4 (cs:=cs) d.2 o (by grind [ahE]) (λe m q=>i (e+1) m q);exact⟨(v,x),⟨[],[],bn,s,by simp_all⟩,t,u⟩
 |.nil,[],c,f,cs,_,_,r,_=>by refine⟨(),⟨bn,?_⟩,trivial⟩;grind [List.drop_eq_nil_iff,ahE]
 |.pr _ _,[],_,_,_,_,a,_,_=>a.elim
 |.nil,_::_,_,_,_,_,a,_,_=>a.elim
 |.int _,fs,_,_,_,_,a,_,_=>by cases fs<;>exact a.elim
 |.bool,fs,_,_,_,_,a,_,_=>by cases fs<;>exact a.elim
 |.str,fs,_,_,_,_,a,_,_=>by cases fs<;>exact a.elim
 |.a6 _ _,fs,_,_,_,_,a,_,_=>by cases fs<;>exact a.elim
 |.ptr _ _,fs,_,_,_,_,a,_,_=>by cases fs<;>exact a.elim
 |.osl _,fs,_,_,_,_,a,_,_=>by cases fs<;>exact a.elim
 |.optr _,fs,_,_,_,_,a,_,_=>by cases fs<;>exact a.elim
 |.st _,fs,_,_,_,_,a,_,_=>by cases fs<;>exact a.elim
 |.eK,fs,_,_,_,_,a,_,_=>by cases fs<;>exact a.elim
end
theorem aau {g:ai} {h:bF} (l:sa g=bp) (e:fi P g h) (d:aiR P w .any a h b):b=cW g b.cells.toList:=by
 cases g with
 |int r=>
  obtain⟨f,_,_,_,_,c⟩:=e;obtain⟨i,rfl⟩:=amT c d;rfl
 |bool=>
  obtain⟨f,_,_,_,_,c⟩:=e;obtain⟨i,rfl⟩:=amU c d;rfl
 |str=>
  obtain⟨f,_,_,_,_,c⟩:=e;obtain⟨i,rfl⟩:=amV c d;rfl
 |a6 m j=>
  obtain⟨f,k,_,_,_,_,c,_⟩:=e;obtain⟨n,s,o,rfl⟩:=amW c d;rfl
 |ptr m j=>
  obtain⟨f,k,_,_,_,_,c,_⟩:=e;simp only[aiR,c,Cell.okWide] at d;cases b<;>first|rfl|simp_all [Cell.ok]
 |st j=>
  obtain⟨_,f,q,t,_,_,_,_,c,_,_⟩:=e;simp only[aiR,c] at d;obtain⟨p,rfl,_⟩:=d;rfl
 |_=>first|(cases l;done)|exact e.elim
def wd (P:b0):bm hq->ag4->bA
 |[],[]=>bp
 |.v a::c,b::d=>sa a&&hY P a b&&wd P c d
 |_,_=>bq
def pI:(d:bm hq)->hu d->Prop
 |[],_=>True
 |.v e::b,a=>pH e a.1/\pI b a.2
 |.m _::b,a=>pI b a.2
 |.o _::b,a=>pI b a.2
 |.c _ _::b,a=>pI b a.2
 |.n::b,a=>pI b a.2
 |.w _::b,a=>pI b a.2
 |.s _ _::b,a=>pI b a.2
def Le {P:b0}:∀{ps:bm hq} {b:ag4} {k:X},wd P ps b=bp->jC k ps=bo
 |[],_,_,_=>rfl
 |.v g::d,e::f,k,a=>by simp only[wd,cC] at a;exact Le (ps:=d) (k:=k+1) a.2
 |.v _::_,[],_,a=>by cases a
 |.m _::_,b,_,a=>by cases b<;>cases a
 |.o _::_,b,_,a=>by cases b<;>cases a
 |.c _ _::_,b,_,a=>by cases b<;>cases a
 |.n::_,b,_,a=>by cases b<;>cases a
 |.w _::_,b,_,a=>by cases b<;>cases a
 |.s _ _::_,b,_,a=>by cases b<;>cases a
def AD {b:Type}:bm b->ev
 |[]=>[]
 |_::a=>[]::AD a
theorem EI {b:Type}:∀a:bm b,(AD a).flatten=[]
 |[]=>rfl
 |_::a=>by simp only[AD,lQ,EI a,iL]
theorem Lg:∀{f:bm hq} {l:ag4} {base:X} {b:ag5} {i:bm (DataW A)} {r:bm aiQ},wd P f l=bp->aiS enc P w 0 (λ_=>bp) bp l b i r->(∀(j:X) k g,l[j]?=Y k->b[j]?=Y g->aiR P w .any base k g)->∃h:hu f,pI f h/\∀{x:Type} (d:iS f x),mn (x6 (λd=>d<w.heap.size) (λ_=>b5) w) (gK f h d) b (AD b)
 |[],[],base,b,i,r,_,q,_=>by cases b<;>cases i<;>first|exact⟨(),trivial,λ_=>trivial⟩|exact q.elim
 |.v U::Q,y::x,base,b,i,r,e,q,u=>by
  simp only[wd,cC] at e;obtain⟨⟨s,z⟩,B⟩:=e;obtain⟨g,T,K,L,R,S,rfl,rfl,rfl,p,C⟩:=akY q;obtain⟨M,p⟩:=p;have t:=hY.ok z;obtain⟨J,G,F⟩:=E5 s t p;obtain⟨h,D,E⟩:=Lg B C (λj k I N O=>u (j+1) k I (by grind) (by grind));refine⟨(J,h),⟨F,D⟩,λd=>⟨⟨bn,g.cells.toList,aau s t (u 0 y g bn rfl),?_⟩,E d⟩⟩;exact G.mono (λH d e=>⟨by cases H with
   |bh=>exact e
   |eE=>exact .inl e,cp _ _⟩) ac
 |[],_::_,_,_,_,_,a,_,_=>by cases a
 |.v _::_,[],_,_,_,_,a,_,_=>by cases a
 |.m _::_,_,_,_,_,_,a,_,_=>by cases a
 |.o _::_,_,_,_,_,_,a,_,_=>by cases a
 |.c _ _::_,_,_,_,_,_,a,_,_=>by cases a
 |.n::_,_,_,_,_,_,a,_,_=>by cases a
 |.w _::_,_,_,_,_,_,a,_,_=>by cases a
theorem Q3 {P:b0} (k:laidOutB P=bp) {i j:bD} {o:X->bA}:∀{e:ag4} {d:ag5} {c:bm (DataW A)} {b:bm aiQ},(∀g∈e,P.readableRec g=bp/\g<P.types.size)->aiS enc P i 0 (λ_=>bp) bp e d c b->(∀a∈b,i.sameAt j a)->(∀a∈b,o a.block=bp)->aiS enc P j 0 o bp e d c b
 |[],d,c,b,_,f,_,_=>by cases d<;>cases c<;>first|exact f|exact f.elim
 |T::e,d,c,b,l,f,m,n=>by obtain⟨y,z,v,w,r,s,rfl,rfl,rfl,p,q⟩:=akY f;obtain⟨t,u⟩:=l T ac;exact⟨r,s,amX k t u p (λa h=>m a (by grind)) (λa h=>n a (by grind)),Q3 k (λg x=>l g (by grind)) q (λa h=>m a (by grind)) (λa h=>n a (by grind)),bn⟩
theorem Ws {E:fy} {F:jF} {l:ChangeSpec} {T:bF} (bl:aI E F) (eq:laidOutB E.P=bp) (d0:(j.params.toList.all λe=>E.P.readableRec e&&ca e E.P.types.size)=bp) (U:wd E.P F.ps j.params.toList=bp) (_hrs:F.rs=[.bool]) (I:j.resultTypes=#[T]) (u:E.P.underlying T=Y .bool) (an:l.vars=[]) (ft:∀d:bm (DataW A),d.length=j.params.toList.length->l.fn A d=⟨[.lit (.bool bp)],d,[]⟩) (d4:∀t,pI F.ps t->∃b,F.xU t=Y b/\iY F.rs (it F.ps b)=[⟨.bool,bp⟩]) {G a3 ci a0:bA} {c:bD} {p:ag3} {d z:bm (DataW A)} {h:bm aiQ} (d5:∀(r:X) e o,j.params[r]?=Y e->p[r]?=Y o->aiR E.P c .any a e o) (J:DataW.Whole enc E.P j.params.toList l.vars G c p.toList d z h) (bs:lg E (λb=>b<c.heap.size) c):Calls E.P F.f p c λH g=>∃o,H=.returned o/\l.post enc E.P j G a3 ci a0 c p o g:=by
 have K:=J;obtain⟨C,d6,a4,B,S,cs,ex⟩:=J;rw[an] at B;have cv:z=[]/\d6=[]:=by cases z with
  |nil=>exact⟨bn,B⟩
  |cons=>exact B.elim
 obtain⟨rfl,rfl⟩:=cv;rw[oJ] at S;subst S;obtain⟨t,ds,ce⟩:=Lg (w:=c) (base:=a) U a4 (λr e o ad am=>d5 r e o (by grind) (by grind));obtain⟨b,bx,d1⟩:=d4 t ds;have em:∀{s:ag4} {D:ag5} {d:bm (DataW A)} {C:bm aiQ},aiS enc E.P c 0 (λ_=>bp) bp s D d C->d.length=s.length:=by
  intro s
  induction s with
  |nil=>intro D d C q;cases D<;>cases d<;>first|rfl|exact q.elim
  |cons T s fT=>
   grind [akY]
 have O:l.fn A (d++[])=⟨[.lit (.bool bp)],d,[]⟩:=(by grind);have R:=K.lt;have M:=bl.2 t b bx c (λb=>b<c.heap.size) (λ_=>b5) p.toList (AD p.toList) (λb q=>q.elim id (λq=>q.elim)) (ce b) (by grind [EI]) (by rw[EI];simp) (by rw[AJ,Le U];trivial);rw[alS] at M;refine(M bs).mono ?_;rintro H g ⟨d7,d9,v,y,rfl,n⟩;refine⟨_,bn,?_⟩;have d3:qi y=.bool bp:=by
  have:=n.res;rw[d1] at this;cases y with
  |nil=>cases v<;>exact this.elim
  |cons o y=>
   cases v with
   |nil=>exact this.elim
   |cons ek v=>
    obtain⟨⟨d8,am,_,rfl⟩,d2⟩:=this;cases y with
    |nil=>exact am
    |cons=>cases v<;>exact d2.elim
 have Q:∀b,b<c.heap.size->g.heap[b]?=c.heap[b]?:=λb u=>n.heap b u (by rw[EI];simp);have fp:∀i∈h,c.sameAt g i:=λi x=>by
  have:=Q i.block (R i x);cases i with
  |cell b k=>show g.cell? _=c.cell? _;unfold aio;rw[show g.heap[b]?=c.heap[b]? from this]
  |map b=>exact this
 have co:∀b k,alT b k∈h->g.frozen? ⟨b,k,bo⟩=c.frozen? ⟨b,k,bo⟩:=λb k x=>(by unfold ajM;rw[show g.heap[b]?=c.heap[b]? from Q b (R _ x)]);rw[d3];have fl:∀e∈j.params.toList,E.P.readableRec e=bp/\e<E.P.types.size:=λe ad=>(by have:=g0.1 d0 e ad;simp_all);have L:∀m:X->bA,(∀i∈h,m i.block=bp)->aiS enc E.P g 0 m bp j.params.toList p.toList (l.fn A (d++[])).args h:=λm fs=>(by grind [Q3]);have V:∀(b:X) (m:X->bA) (N:bA),aiS enc E.P g b m N j.resultTypes.toList ((alU bp).resultList j.resultTypes.size) (l.fn A (d++[])).results []:=λb m N=>(by rw[O,I];exact amY ⟨1,by unfold akX;rw[u];rfl⟩);have ap:∀m:X->bA,DataW.TrodVars enc E.P g m l.vars (l.fn A (d++[])).vars []:=λm=>(by rw[O,an];rfl);have c2:∀(r:X) (e:bF) (av:Value),j.resultTypes[r]?=Y e->((alU bp).resultList j.resultTypes.size)[r]?=Y av->aiR E.P g .any 0 e av:=
  Go.RowKit.ok_one I bn (Go.RowKit.okWide_bool_mk u bp)
 have dl:∀i∈h,(λb=>br (b<c.heap.size)) i.block=bp:=λi x=>(by grind);have c1:c.keptBut g (λ_=>b5):=(by refine⟨n.os,n.output,λfz el=>?_⟩;grind);refine⟨d,[],h,[],h,[],K,V _ _ _,L _ dl,ap _,World.keptBut_mono (λ_ q=>q.elim) c1,λ_=>?_⟩;refine⟨c2,_,_,([]++h)++[],⟨[]++h,[],amZ (L _ (λ_ _=>rfl)) (V _ _ _),ap _,bn,?_,?_⟩,?_⟩
 ·intro b k n;have n:alT b k∈h:=(by grind);rw[co b k n];exact cs b k n
 ·grind
 grind
end
end
section
inductive Fo where
 |a
 |b (f:ahb)
 |c (f m:ahb)
def Hc (a:X):X:=a/32+a %32*500000
abbrev abt (a:X):X×oR:=(a,.s (.ref a []))
abbrev Kb (a:X):X×oR:=(a,.v (.int .i64))
inductive oF where
 |l
 |o (a:oF)
 |t (j:Fs) (a b:oF)
 |n (b:oF)
 |p (AN:ni) (m:Ft) (a:oF)
 |k (l:ahb) (a:oF)
 |z (F:ahb) (a:oF)
 |d (L:bm Fo)
def EN (b:bU bQ) (a:X) (f c:ahb):lN:=match b[a]? with
 |some d=>⟨a,dl d,d.looksAt b,qf b a,f,c⟩
 |none=>⟨a,[],[],[],f,c⟩
def Dg (d:bU bQ):X->bm Fo->bm lN
 |_,[]=>[]
 |i,.a::e=>EN d i [] []::Dg d (i+1) e
 |i,.b f::e=>EN d i (f.map Hc) []::Dg d (i+1) e
 |i,.c f g::e=>EN d i (f.map Hc) (g.map Hc)::Dg d (i+1) e
def sF:cr->md
 |.seq a b=>.two .none (sF a) (sF b)
 |.cond _ a b=>.two .none (sF a) (sF b)
 |.block _ a=>.one (sF a)
 |.region _ c bp=>.draw ((bH c.size).map λd=>EN c d [] [])
 |_=>.leaf
def Ap:X->X->bm aZ
 |0,_=>[]
 |k+1,a=>match a %5 with
  |1=>.deref::Ap k (a/5)
  |2=>.unst::Ap k (a/5)
  |3=>.fst::Ap k (a/5)
  |4=>.snd::Ap k (a/5)
  |_=>[]
def oF.ex:oF->cr->md
 |.l,a=>sF a
 |.o b,.block _ a=>.one (b.ex a)
 |.t J b c,.seq a e=>.two J (b.ex a) (c.ex e)
 |.t J b c,.cond _ a e=>.two J (b.ex a) (c.ex e)
 |.n c,.seq a e=>.two .none (sF a) (c.ex e)
 |.n c,.cond _ a e=>.two .none (sF a) (c.ex e)
 |.p j h b,.loop a=>.loop j h (b.ex a)
 |.k g b,a=>.keep g (b.ex a)
 |.z f b,a=>match f with
  |[q]=>bif b2 1000000 q then .fp (q %1000000) (Ap 12 (q/1000000)) (b.ex a) else bif bI q 888888 then .yG else .p4 f (b.ex a)
  |_=>.p4 f (b.ex a)
 |.d g,.region _ i _=>.draw (Dg i 0 g)
 |_,_=>.leaf
def yu (E:fy):Type:={a:bm (X×jF)//∀b∈a,aI E b.2}
def aO {E:fy}:yu E:=⟨[],QX⟩
def ar {E:fy} {a:jF} (c:aI E a) (b:yu E):yu E:=⟨(a.f,a)::b.1,adl c b.2⟩
section
variable {E:fy} {f:X} {fn:Func} {ps:bm hq} {C:bm ai} {D:hu ps->bv (iS ps (lD C))}
def aI.q (d:yu E) (l:oF) (k:E.P.funcs[f]?=Y fn) (j:∀(h:ag3) (i:bD),(callFunc f h).run E.P i=.ok (.enter f h) i) (g:bm (X×ai):=[]) (e:ahd:=[]) (a:(fn.body.isSome&&b2 ps.length fn.ntmps)=bp:=by kernel_rfl) (c:∀b,zS ⟨E.tt,d.1,g,fn.ntmps,j1 0 ps++nP (jC 0 ps),[],e,jC 0 ps,[],[],E.glob,E.eqs⟩ (l.ex (fn.body.getD .skip)) (fn.body.getD .skip) ps fn.results.toList C b=D b:=by intro b;kernel_rfl):aI E ⟨f,ps,C,D⟩:=
 have a:=cC _ _▸a
 aI.Ow d.1 g e _ [] (λ_ c=>by cases c) k a.1 alS.symm a.2 j d.2 c
end
end
def k3 (a:X):X×X:=bif ca (a %32) 28 then(a %32,a/32) else bif bI (a %32) 31 then(a/32 %134217728,a/4294967296) else((a %32-28)*256+a/32 %256+28,a/8192)
def nM {c:Type} (b:X->c×X):X->X->bm c×X
 |0,a=>([],a)
 |k+1,a=>match a %2 with
  |0=>([],a/2)
  |_=>match b (a/2) with
   |(x,t)=>match nM b k t with
    |(l,u)=>(x::l,u)
def Jl (a:bm ai) (b:X):ai×X:=match k3 b with
 |(i,t)=>(a.getD i .nil,t)
def nN {a b:Type} (c:X->a×X) (d:X->b×X) (e:X):(a×b)×X:=match c e with
 |(x,t)=>match d t with
  |(y,u)=>((x,y),u)
def abG (b:bm ai) (a:X):(X×oR)×X:=match a %4 with
 |0=>match k3 (a/4) with
  |(k,t)=>(abt k,t)
 |1=>match k3 (a/4) with
  |(k,t)=>(Kb k,t)
 |2=>match nN k3 (Jl b) (a/4) with
  |((k,x),t)=>((k,.v x),t)
 |_=>match nN k3 k3 (a/4) with
  |((k,x),t)=>((k,.s (.ref x [])),t)
def Ay (a:bm ai) (b:X):ni×X:=match nN (nM (abG a) 99) (nM (nN k3 (Jl a)) 99) b with
 |((x,y),t)=>(⟨x,y⟩,t)
def abF (b:bm ai) (a:X):Fs×X:=match a %3 with
 |0=>(.none,a/3)
 |1=>match nN (nM k3 99) (Ay b) (a/3) with
  |((x,y),t)=>(.x x y,t)
 |_=>match nN (nM k3 99) (Ay b) (a/3) with
  |((x,y),t)=>(.vy x y,t)
def abH (b:bm ai) (a:X):Ft×X:=match a %3 with
 |0=>(.r,a/3)
 |1=>match nN k3 (Ay b) (a/3) with
  |((x,y),t)=>(.x x y,t)
 |_=>match nN k3 (Ay b) (a/3) with
  |((x,y),t)=>(.vy x y,t)
def Jj (a:X):X×X:=match a %2 with
 |0=>match k3 (a/2) with
  |(k,t)=>(k*32,t)
 |_=>match k3 (a/64) with
  |(k,t)=>(k*32+a/2 %32,t)
def abE (d:X):Fo×X:=match d %3 with
 |0=>(.a,d/3)
 |1=>match nM Jj 99 (d/3) with
  |(x,t)=>(.b x,t)
 |_=>match nN (nM Jj 99) (nM Jj 99) (d/3) with
  |((x,y),t)=>(.c x y,t)
def tb (e:bm ai):X->X->oF×X
 |0,c=>(.l,c)
 |k+1,c=>match c %8 with
  |0=>(.l,c/8)
  |1=>match tb e k (c/8) with
   |(a,t)=>(.o a,t)
  |2=>match abF e (c/8) with
   |(f,t)=>match tb e k t with
    |(a,t)=>match tb e k t with
     |(b,t)=>(.t f a b,t)
  |3=>match tb e k (c/8) with
   |(a,t)=>(.n a,t)
  |4=>match nN (Ay e) (abH e) (c/8) with
   |((x,y),t)=>match tb e k t with
    |(a,t)=>(.p x y a,t)
  |5=>match nM k3 99 (c/8) with
   |(x,t)=>match tb e k t with
    |(a,t)=>(.k x a,t)
  |6=>match nM k3 99 (c/8) with
   |(x,t)=>match tb e k t with
    |(a,t)=>(.z x a,t)
  |_=>match nM abE 999 (c/8) with
   |(x,t)=>(.d x,t)
def Jk (b:bm ai) (c:X):oF×bm (X×ai)×ahd:=match tb b 999 c with
 |(a,t)=>match nN (nM (nN k3 (Jl b)) 99) (nM (nN k3 k3) 99) t with
  |((x,y),_)=>(a,x,y)
def Tj {b:b0} (h:b.funcs[a]?=Y j) (i:(j.name=="runtime.NumGoroutine")=bq) (g:j.body.isSome=bp) (c:ag3) (d:bD):(callFunc a c).run b d=.ok (.enter a c) d:=by have e:j.name≠"runtime.NumGoroutine":=(by simpa using i);obtain⟨k,f⟩:=akp.1 g;simp[callFunc,h,e,f,Sem.run]
section
def ae {α:Type} (c:bv α) (b:α->Prop):Prop:=∃a,c=Y a/\b a
section
variable {α A σ ρ τ:Type}
theorem ae.af {a:α} {b:α->Prop}:ae (Y a) b↔b a:=⟨λ⟨_,c,d⟩=>by grind,λc=>⟨a,bn,c⟩⟩
theorem ae.s6 {a:α->Prop}:ae bo a↔False:=⟨(λ⟨_,b,_⟩=>by cases b),False.elim⟩
theorem ae.e6 {x:bv α} {b:α->bv A} {a:A->Prop}:ae (x.bind b) a↔ae x (λc=>ae (b c) a):=by
 cases x with
 |none=>grind [ae.s6]
 |some c=>grind [ae.af]
theorem ae.In {a:bv α} {c:α->A} {b:A->Prop}:ae (a.map c) b↔ae a (λd=>b (c d)):=by
 cases a with
 |none=>grind [ae.s6]
 |some d=>grind [ae.af]
theorem ae.fa {b:bA} {c d:bv α} {a:α->Prop}:ae (bif b then c else d) a↔(b=bp->ae c a)/\(b=bq->ae d a):=by grind
theorem ae.mono {c:bv α} {P b:α->Prop} (d:ae c P) (g:∀a,P a->b a):ae c b:=let⟨a,e,f⟩:=d;⟨a,e,g a f⟩
def ae.eq_iff {c:bv α} {b:α}:ae c (· =b)↔c=Y b:=⟨λ⟨e,a,d⟩=>by rw[a,d],λa=>⟨b,a,bn⟩⟩
theorem ae.MW {a:bm α} {b:α->Prop}:ae (al a g) b↔∃(d:g.toNat<a.length),0<=g/\b a[g.toNat]:=by
 unfold al;by_cases c:0<=g
 ·rw[au c];grind [aiT,ae.s6,bR,ae.af]
 rw[aw c,ae.s6];grind
theorem ae.kG {b:bm α} {c:α->Prop}:ae (al b (a:Z)) c↔∃(d:a<b.length),c b[a]:=by rw[ae.MW];simp
theorem ae.DM:ae (bj a g) l↔(0<=g/\g.toNat<a)/\l g.toNat:=by
 unfold bj;by_cases b:0<=g/\g.toNat<a
 ·simp_all [au,ae.af]
 rw[aw b,ae.s6];simp[b]
theorem ae.xn {b:bt->Prop}:ae (cG a) b↔a<=hD/\b ():=by
 unfold cG;by_cases c:a<=hD
 ·simp_all [au,ae.af]
 rw[aw c,ae.s6];simp[c]
theorem ae.Im {a:Z}:ae (fX g a) l↔(0<=g/\g<=a/\a<=(hD:Z))/\l g.toNat:=by
 unfold fX;by_cases b:0<=g/\g<=a/\a<=(hD:Z)
 ·simp_all [au,ae.af]
 rw[aw b,ae.s6];simp[b]
def bb (d:bm α) (c:X) (b:α->bv A):bv A:=match d[c]? with
 |some a=>b a
 |none=>bo
theorem ae.Bu {b:bm α} {d:α->bv A} {c:A->Prop}:ae (bb b a d) c↔∃(e:a<b.length),ae (d b[a]) c:=by grind [aiT,ae.s6,bR,bb]
theorem ae.loop {g:σ->bv (σ⊕ρ)} {f:ρ->Prop} (d:σ->Prop) (e:σ->X) {a:σ} (m:d a) (k:∀a,d a->ae (g a) (λ|.inl l=>d l/\e l<e a|.inr b=>f b)):ae (loop g a) f:=by
 have o:∀c a,e a<=c->d a->∃b,j7 g (c+1) a=Y b/\f b:=by
  intro c
  induction c with
  |zero=>
   intro a n j;obtain⟨p,h,i⟩:=k a j;grind [j7]
  |succ c q=>
   intro a n j;obtain⟨p,h,i⟩:=k a j;grind [j7]
 obtain⟨b,h,i⟩:=o (e a) a (bd _) m;exact⟨b,xq.2 ⟨_,h⟩,i⟩
theorem ae.for {h:Z×τ->bv ((Z×τ)⊕ρ)} {f:ρ->Prop} (b:X) (d:X->τ->Prop) {i0:X} {m:τ} (o:g=(i0:Z)) (n:d i0 m) (k:i0<=b) (q:∀a c,i0<=a->a<b->d a c->ae (h ((a:Z),c)) (λ|.inl l=>l.1=((a+1:X):Z)/\d (a+1) l.2|.inr i=>f i)) (s:∀c,d b c->ae (h ((b:Z),c)) (λ|.inl _=>b5|.inr i=>f i)):ae (jm.loop h (g,m)) f:=by
 subst o;refine ae.loop (λe=>∃a:X,i0<=a/\a<=b/\e.1=(a:Z)/\d a e.2) (λe=>b-e.1.toNat) ⟨i0,bd _,k,bn,n⟩ ?_;rintro⟨t,c⟩ ⟨a,p,k,rfl,r⟩;rcases cS a b with j|j
 ·refine(q a c p j r).mono ?_;grind
 grind [mono]
end
theorem ad3 (a:Z):bK.wrap a=if(9223372036854775808:Z)<=a %18446744073709551616 then a %18446744073709551616-18446744073709551616 else a %18446744073709551616:=by
 unfold aiU;by_cases b:(9223372036854775808:Z)<=a %18446744073709551616
 ·rw[au b];exact au (show(bp&&br (a %18446744073709551616>=(9223372036854775808:Z)))=bp by simp[b])
 rw[aw b];exact aw (show¬(bp&&br (a %18446744073709551616>=(9223372036854775808:Z)))=bp by simp[b])
theorem wrap64 (a:-9223372036854775808<=g) (b:g<=9223372036854775807):bK.wrap g=g:=by grind [ad3]
theorem iU (b:a<9223372036854775807):bK.wrap ((a:Z)+1)=((a+1:X):Z):=by grind [wrap64]
end
section
abbrev ak {α:Type} (a:bm α):Z:=((a.length:X):Z)
abbrev ay (a:Z):Z:=bK.wrap a
abbrev aJ (a:Z):Z:=bC.wrap a
abbrev db (a:Z):Z:=cb.wrap a
abbrev aP (a:Z):Z:=bK.wrap (a+1)
def rd {α A:Type} (a:bm α) (c:Z) (e:α->bv A):bv A:=(bj a.length c).bind λd=>(bb a d λb=>Y b).bind e
def wr {α A:Type} (a:bm α) (c:Z) (e:α) (d:bm α->bv A):bv A:=(bj a.length c).bind λb=>(bb a b λ_=>Y (a.set b e)).bind d
section
variable {α A:Type}
def lE {b:bm α} (d:a<b.length) (c:α->bv A):rd b (a:Z) c=c b[a]:=by unfold rd bj;rw[au ⟨aa,by simpa using d⟩];show(bb b (a:Z).toNat _).bind c=_;unfold bb;rw[fA,bc d];rfl
def abI {b:bm α} {c:α} (e:0<=g) (d:b[g.toNat]?=Y c) (a:α->bv A):rd b g a=a c:=by obtain⟨f,h⟩:=hJ.1 d;obtain⟨j,rfl⟩:=gg e;have i:j<b.length:=f;exact(lE i a).trans (b3 a h)
theorem lI {b:bm α} (d:a<b.length) (e:α) (c:bm α->bv A):wr b (a:Z) e c=c (b.set a e):=by unfold wr bj;rw[au ⟨aa,by simpa using d⟩];show(bb b (a:Z).toNat _).bind c=_;unfold bb;rw[fA,bc d];rfl
end
end
def BV:ea->ag9:=λ(e,h,_)=>(loop (σ:=ej) (ρ:=ed) (λ(f,c,_)=>bif br (c<((e.length:X):Z)) then(bB (α:=eo⊕dL) ((al e c).bind λd=>bB (α:=bt⊕(eo⊕dL)) (bw (br (d<=f)==bq) (bw (br (d>=h)) (Y (.inr (.inr (.inr (.inr (bq,())))))) (Y (.inl ()))) (Y (.inr (.inr (.inr (.inr (bq,()))))))) λa=>match a with
 |.inl _=>(Y (.inl (d,())))
 |.inr b=>Y b) λa=>match a with
 |.inl (g,_)=>(Y (.inl (g,bK.wrap (c+(1:Z)),())))
 |.inr b=>Y b) else Y (.inr (.inl ()))) ((-1:Z),(0:Z),())).bind λa=>match a with
 |.inl _=>(Y (bp,()))
 |.inr b=>Y b
def si:eo->ag9:=λ(a,_)=>Y ((a !=a),())
def ug:ej->ag9:=λ(a,b,_)=>(si (a,())).bind λ(c,_)=>(bw (c==bp) ((si (b,())).bind λ(aE,_)=>bw ((!aE)==bq) (Y (br (a<b),())) (Y (bp,()))) (Y (br (a<b),())))
def CH:eo->ag9:=λ(a,_)=>Y ((a !=a),())
def us:ea->bv eg:=λ(b,e,_)=>(loop (σ:=ej) (ρ:=eo) (λ(c,d,_)=>bw (br (c<d)) ((eM bC (bC.wrap (bK.wrap (c+d))) (1:Z)).bind λf=>(al b (bK.wrap f)).bind λk=>(ug (k,e,())).bind λ(i,_)=>bw i (Y (.inl (bK.wrap (bK.wrap f+(1:Z)),d,()))) (Y (.inl (c,bK.wrap f,())))) (Y (.inr (c,())))) ((0:Z),((b.length:X):Z),())).bind λ(a,_)=>(bw (br (a<((b.length:X):Z))==bp) ((al b a).bind λl=>bw ((l==e)==bq) ((al b a).bind λj=>(CH (j,())).bind λ(g,_)=>bw (g==bp) ((CH (e,())).bind λ(h,_)=>Y (a,h,())) (Y (a,bq,()))) (Y (a,bp,()))) (Y (a,bq,())))
def wD:(dW×Z×Z×bt)->ag9:=λ(a,c,d,_)=>(al a.1 c).bind λe=>(us (e,d,())).bind λ(_,b,_)=>Y (b,())
def yT:dR->aha:=λ(a,_)=>(bif br ((((a.1).length:X):Z)>(200:Z)) then Y ((6:Z),()) else((loop (σ:=eo) (ρ:=ee) (λ(d,_)=>bif br (d<(((a.1).length:X):Z)) then(bB (α:=bt⊕dQ) ((al a.1 d).bind λj=>(BV (j,(((a.1).length:X):Z),())).bind λ(aE,_)=>bw ((!aE)==bq) ((wD (a,d,d,())).bind λ(i,_)=>bw i (Y (.inr (.inr (.inr ((1:Z),()))))) (Y (.inl ()))) (Y (.inr (.inr (.inr ((1:Z),())))))) λb=>match b with
 |.inl _=>(Y (.inl (bK.wrap (d+(1:Z)),())))
 |.inr c=>Y c) else Y (.inr (.inl ()))) ((0:Z),())).bind λb=>match b with
 |.inl _=>((loop (σ:=eo) (ρ:=ee) (λ(e,_)=>bif br (e<(((a.1).length:X):Z)) then((al a.1 e).bind λg=>(loop (σ:=eo) (ρ:=dI) (λ(f,_)=>bw (br (f<((g.length:X):Z))) ((al g f).bind λk=>(wD (a,k,e,())).bind λ(h,_)=>bw (!h) (Y (.inr (.inr (.inr (.inr ((1:Z),())))))) (Y (.inl (bK.wrap (f+(1:Z)),())))) (Y (.inr (.inl ())))) ((0:Z),())).bind λb=>match b with
 |.inl _=>(Y (.inl (bK.wrap (e+(1:Z)),())))
 |.inr c=>Y c) else Y (.inr (.inl ()))) ((0:Z),())).bind λb=>match b with
 |.inl _=>(Y ((0:Z),()))
 |.inr c=>Y c)
 |.inr c=>Y c))
def zg:(ahc×ahc×bt)->ag9:=λ(b,c,_)=>(bif ((b.length:X):Z)!=((c.length:X):Z) then Y (bq,()) else((loop (σ:=eo) (ρ:=ed) (λ(a,_)=>bw (br (a<((b.length:X):Z))) ((al b a).bind λf=>(al c a).bind λg=>bw (f !=g) (Y (.inr (.inr (bq,())))) (Y (.inl (bK.wrap (a+(1:Z)),())))) (Y (.inr (.inl ())))) ((0:Z),())).bind λd=>match d with
 |.inl _=>(Y (bp,()))
 |.inr e=>Y e))
def zf:eh->ag9:=λ(b,_)=>(loop (σ:=eo) (ρ:=ed) (λ(a,_)=>bw (br (a<((b.length:X):Z))) ((al b a).bind λe=>(al b (bK.wrap (a-(1:Z)))).bind λf=>bw (br (e<=f)) (Y (.inr (.inr (bq,())))) (Y (.inl (bK.wrap (a+(1:Z)),())))) (Y (.inr (.inl ())))) ((1:Z),())).bind λc=>match c with
 |.inl _=>(Y (bp,()))
 |.inr d=>Y d
def zp:dU->bv dR:=λ(f,_)=>(loop (σ:=dr) (ρ:=dt) (λ(b,l,i,_)=>bif br (b<((f.length:X):Z)) then(loop (σ:=(Z×dW×dW×ahc×bt)) (ρ:=dn) (λ(a,e,c,d,_)=>bif br (a<((f.length:X):Z)) then bB (α:=dn) (bB (α:=(bA×dW×dW×ahc×bt)) (bw ((b !=a)==bp) ((al f b).bind λt=>(al t a).bind λu=>bw (u==bq) ((al f a).bind λv=>(al v b).bind λw=>Y (w,e,c,d,())) (Y (bp,e,c,d,()))) (Y (bq,e,c,d,()))) λ(q,m,j,h,_)=>
 bw q ((cG (h.length+([a]).length)).bind λ_=>Y (m,j,(h++[a]),())) (Y (m,j,h,()))) λ(r,n,p,_)=>Y (.inl (bK.wrap (a+(1:Z)),r,n,p,())) else Y (.inr (e,c,d,()))) ((0:Z),l,i,[],())).bind λ(s,g,k,_)=>(cG ((g.1).length+([k]).length)).bind λ_=>Y (.inl (bK.wrap (b+(1:Z)),s,((g.1++[k]),g.2),())) else Y (.inr (l,i,()))) ((0:Z),([],()),([],()),())).bind λ(_,o,_)=>Y (o,())
def sp:ea->ag9:=λ(b,e,_)=>(loop (σ:=eo) (ρ:=ed) (λ(a,_)=>bw (br (a<((b.length:X):Z))) ((al b a).bind λf=>bw (f==e) (Y (.inr (.inr (bp,())))) (Y (.inl (bK.wrap (a+(1:Z)),())))) (Y (.inr (.inl ())))) ((0:Z),())).bind λc=>match c with
 |.inl _=>(Y (bq,()))
 |.inr d=>Y d
def uz:dR->aha:=λ(a,_)=>(bif br ((((a.1).length:X):Z)>(200:Z)) then Y ((6:Z),()) else((loop (σ:=eo) (ρ:=ee) (λ(b,_)=>bif br (b<(((a.1).length:X):Z)) then(al a.1 b).bind λh=>(zf (h,())).bind λ(aE,_)=>bif !aE then Y (.inr (.inr ((1:Z),()))) else((loop (σ:=eo) (ρ:=dI) (λ(f,_)=>(al a.1 b).bind λi=>bif br (f<((i.length:X):Z)) then(bB (α:=bt⊕dv) ((al a.1 b).bind λj=>(al j f).bind λe=>bw (br (e<(0:Z))==bq) (bw (br (e>=(((a.1).length:X):Z))==bq) (bw ((e==b)==bq) ((al a.1 e).bind λk=>(sp (k,b,())).bind λ(g,_)=>bw (!g) (Y (.inr (.inr (.inr (.inr (.inr ((1:Z),()))))))) (Y (.inl ()))) (Y (.inr (.inr (.inr (.inr (.inr ((1:Z),())))))))) (Y (.inr (.inr (.inr (.inr (.inr ((1:Z),())))))))) (Y (.inr (.inr (.inr (.inr (.inr ((1:Z),())))))))) λc=>match c with
 |.inl _=>(Y (.inl (bK.wrap (f+(1:Z)),())))
 |.inr d=>Y d) else Y (.inr (.inl ()))) ((0:Z),())).bind λc=>match c with
 |.inl _=>(Y (.inl (bK.wrap (b+(1:Z)),())))
 |.inr d=>Y d) else Y (.inr (.inl ()))) ((0:Z),())).bind λc=>match c with
 |.inl _=>(Y ((0:Z),()))
 |.inr d=>Y d))
def CZ:ea->ag9:=λ(b,e,_)=>(loop (σ:=eo) (ρ:=ed) (λ(a,_)=>bif br (a<((b.length:X):Z)) then(bB (α:=bt⊕dP) ((al b a).bind λf=>bw (br (f<(0:Z))==bq) ((al b a).bind λg=>bw (br (g>=e)) (Y (.inr (.inr (.inr (bq,()))))) (Y (.inl ()))) (Y (.inr (.inr (.inr (bq,())))))) λc=>match c with
 |.inl _=>(Y (.inl (bK.wrap (a+(1:Z)),())))
 |.inr d=>Y d) else Y (.inr (.inl ()))) ((0:Z),())).bind λc=>match c with
 |.inl _=>(Y (bp,()))
 |.inr d=>Y d
def C0:eh->ag9:=λ(b,_)=>(loop (σ:=eo) (ρ:=ed) (λ(a,_)=>bw (br (a<((b.length:X):Z))) (((Y (0)).bind λc=>(gy a).bind λd=>(hb c d b.length).map λ_=>(c,d)).bind λe=>(al b a).bind λi=>(sp (((b.take e.2).drop e.1),i,())).bind λ(h,_)=>bw h (Y (.inr (.inr (bp,())))) (Y (.inl (bK.wrap (a+(1:Z)),())))) (Y (.inr (.inl ())))) ((0:Z),())).bind λf=>match f with
 |.inl _=>(Y (bq,()))
 |.inr g=>Y g
def zq:dR->bv dU:=λ(a,_)=>(loop (σ:=dS) (ρ:=dU) (λ(c,g,_)=>bw (br (c<(((a.1).length:X):Z))) ((fX (((a.1).length:X):Z) (((a.1).length:X):Z)).bind λj=>(loop (σ:=(Z×eu×ag8×bt)) (ρ:=(eu×ag8×bt)) (λ(d,h,b,_)=>(al a.1 c).bind λm=>bw (br (d<((m.length:X):Z))) ((al a.1 c).bind λn=>(al n d).bind λl=>(bj b.length l).bind λe=>(bb b e λ_=>Y (b.set e bp)).bind λo=>Y (.inl (bK.wrap (d+(1:Z)),h,o,()))) (Y (.inr (h,b,())))) ((0:Z),g,bJ j bq,())).bind λ(f,i,_)=>(cG (f.length+([i]).length)).bind λ_=>Y (.inl (bK.wrap (c+(1:Z)),(f++[i]),()))) (Y (.inr (g,())))) ((0:Z),[],())).bind λ(k,_)=>
 Y (k,())
def zr:eo->bv dU:=λ(a,_)=>(loop (σ:=dS) (ρ:=dU) (λ(c,b,_)=>bw (br (c<a)) ((fX a a).bind λd=>(cG (b.length+([bJ d bq]).length)).bind λ_=>Y (.inl (bK.wrap (c+(1:Z)),(b++[bJ d bq]),()))) (Y (.inr (b,())))) ((0:Z),[],())).bind λ(e,_)=>Y (e,())
def C1:dG->bv dN:=λ(e,a,_)=>(uz (e,())).bind λ(j,_)=>(bif j !=(0:Z) then Y (([],()),j,()) else(CZ (a,(((e.1).length:X):Z),())).bind λ(aE,_)=>bif !aE then Y (([],()),(3:Z),()) else(C0 (a,())).bind λ(r,_)=>bif r then Y (([],()),(90:Z),()) else(zq (e,())).bind λ(s,_)=>(zr (((a.length:X):Z),())).bind λ(t,_)=>(loop (σ:=dw) (ρ:=dy) (λ(c,l,i,_)=>bif br (c<((a.length:X):Z)) then(loop (σ:=dw) (ρ:=dy) (λ(d,k,b,_)=>bif br (d<((a.length:X):Z)) then(bj b.length c).bind λf=>(al a c).bind λv=>
 (al s v).bind λw=>(al a d).bind λx=>(al w x).bind λy=>((bb b f λm=>Y m).bind λn=>bj n.length d).bind λh=>(bb b f λg=>(bb g h λ_=>Y (g.set h y)).map λz=>b.set f z).bind λA=>Y (.inl (bK.wrap (d+(1:Z)),k,A,())) else Y (.inr (k,b,()))) ((0:Z),l,i,())).bind λ(u,o,_)=>Y (.inl (bK.wrap (c+(1:Z)),u,o,())) else Y (.inr (l,i,()))) ((0:Z),([],()),t,())).bind λ(_,p,_)=>(zp (p,())).bind λ(q,_)=>Y (q,(0:Z),()))
def C2:dR->bv dB:=λ(a,_)=>(zq (a,())).bind λ(c,_)=>(fX (((a.1).length:X):Z) (((a.1).length:X):Z)).bind λb=>Y ((c,(bJ b bq,())),())
def zu:(bv dM×Z×bt)->bv eh:=λ(b,h,_)=>(loop (σ:=eb) (ρ:=eh) (λ(a,d,_)=>b.bind λj=>bw (br (a<(((j.1).length:X):Z))) (bB (α:=eh) (bB (α:=(bA×ahc×bt)) (b.bind λk=>(al k.1 h).bind λl=>(al l a).bind λm=>bw (m==bp) (b.bind λn=>(al n.2.1 a).bind λi=>Y ((!i),d,())) (Y (bq,d,()))) λ(g,c,_)=>bw g ((cG (c.length+([a]).length)).bind λ_=>Y ((c++[a]),())) (Y (c,()))) λ(e,_)=>Y (.inl (bK.wrap (a+(1:Z)),e,()))) (Y (.inr (d,())))) ((0:Z),[],())).bind λ(f,_)=>Y (f,())
def zt:(dM×Z×bt)->bv dB:=λ(h,l,_)=>(zu (Y h,l,())).bind λ(e,_)=>(loop (σ:=dz) (ρ:=dB) (λ(c,i,_)=>bif br (c<((e.length:X):Z)) then(loop (σ:=dz) (ρ:=dB) (λ(d,a,_)=>bif br (d<((e.length:X):Z)) then bB (α:=dB) (bw (c !=d) ((al e c).bind λr=>(bj (a.1).length r).bind λf=>(al e d).bind λq=>((bb a.1 f λm=>Y m).bind λn=>bj n.length q).bind λj=>((bb a.1 f λg=>(bb g j λ_=>Y (g.set j bp)).map λs=>(a.1).set f s).map λt=>(t,a.2)).bind λu=>Y (u,())) (Y (a,()))) λ(o,_)=>
 Y (.inl (bK.wrap (d+(1:Z)),o,())) else Y (.inr (a,()))) ((0:Z),i,())).bind λ(p,_)=>Y (.inl (bK.wrap (c+(1:Z)),p,())) else Y (.inr (i,()))) ((0:Z),h,())).bind λ(b,_)=>(bj (b.2.1).length l).bind λk=>(((bb b.2.1 k λ_=>Y ((b.2.1).set k bp)).map λv=>(v,b.2.2)).map λw=>(b.1,w)).bind λx=>Y (x,())
def zv:dR->bv (ew×Z×bt):=λ(b,_)=>(uz (b,())).bind λ(e,_)=>(bw (e !=(0:Z)) (Y ([],e,())) ((C2 (b,())).bind λ(i,_)=>(loop (σ:=(Z×dM×ew×bt)) (ρ:=dW) (λ(a,f,c,_)=>bw (br (a<(((b.1).length:X):Z))) ((zu (Y f,a,())).bind λ(d,_)=>(cG (([a]).length+d.length)).bind λ_=>(cG (c.length+([([a]++d)]).length)).bind λ_=>(zt (f,a,())).bind λ(g,_)=>Y (.inl (bK.wrap (a+(1:Z)),g,(c++[([a]++d)]),()))) (Y (.inr (c,())))) ((0:Z),i,[],())).bind λ(h,_)=>Y (h,(0:Z),())))
def Cq:ej->bv ej:=λ(b,a,_)=>(eM bC b (32:Z)).bind λc=>(eM bC a (32:Z)).bind λd=>(eM bC (bC.wrap (ey bC b (4294967295:Z)*ey bC a (4294967295:Z))) (32:Z)).bind λe=>(eM bC (bC.wrap (bC.wrap (c*ey bC a (4294967295:Z))+e)) (32:Z)).bind λf=>(eM bC (bC.wrap (ey bC (bC.wrap (bC.wrap (c*ey bC a (4294967295:Z))+e)) (4294967295:Z)+bC.wrap (ey bC b (4294967295:Z)*d))) (32:Z)).bind λg=>Y (bC.wrap (bC.wrap (bC.wrap (c*d)+f)+g),bC.wrap (b*a),())
def Gq:ej->bv ej:=λ(b,c,_)=>(Cq (b,c,())).bind λ(a,aE,_)=>Y (a,aE,())
def CE:ea->bv eh:=λ(f,g,_)=>bB (α:=bt) (bw (br (g<(0:Z))) bo (Y ())) λ_=>(Gq (bC.wrap ((f.length:X):Z),bC.wrap g,())).bind λ(m,aE,_)=>bB (α:=bt) (bB (α:=en) (bw (br (m>(0:Z))==bq) (Y (br (aE>(9223372036854775807:Z)),())) (Y (bp,()))) λ(n,_)=>bw n bo (Y ())) λ_=>(fX (bK.wrap aE) (bK.wrap aE)).bind λe=>(loop (σ:=eb) (ρ:=eh) (λ(b,a,_)=>bif br (b<((a.length:X):Z)) then((gy b).bind λk=>(Y (a.length)).bind λh=>(hb k h a.length).bind λ_=>(nL a.length).map λ_=>(k,h)).bind λc=>((Y (0)).bind λi=>(gy b).bind λj=>(hb i j a.length).bind λ_=>(nL a.length).map λ_=>(i,j)).bind λd=>Y (.inl (bK.wrap (b+((min ((a.take d.2).drop d.1).length (c.2-c.1):X):Z)),jt a ((a.take d.2).drop d.1) c.1 c.2,())) else
 Y (.inr (a,()))) (((min f.length ((bJ e (0:Z)).length-0):X):Z),jt (bJ e (0:Z)) f 0 (bJ e (0:Z)).length,())).bind λ(l,_)=>Y (l,())
def Da:dx->bv dY:=λ(g,h,_)=>(loop (σ:=eb) (ρ:=dH) (λ(e,b,_)=>bif br (e<((g.length:X):Z)) then(bB (α:=eh⊕dp) ((al g e).bind λa=>bB (α:=(ahc×dO×bt)⊕(eh⊕dp)) (bB (α:=(bA×ahc×dO×bt)) (bw ((a.1 !=((b.length:X):Z))==bq) (bw (br (a.2.1<=a.1)==bq) (Y (br (a.2.1>h),b,a,())) (Y (bp,b,a,()))) (Y (bp,b,a,()))) λ(o,m,l,_)=>bw o (Y (.inr (.inr (.inr (.inr ([],bq,())))))) (Y (.inl (m,l,())))) λc=>match c with
 |.inl (i,f,_)=>((CE ([e],bK.wrap (f.2.1-f.1),())).bind λ(k,_)=>(cG (i.length+k.length)).bind λ_=>Y (.inl ((i++k),())))
 |.inr d=>Y d) λc=>match c with
 |.inl (n,_)=>(Y (.inl (bK.wrap (e+(1:Z)),n,())))
 |.inr d=>Y d) else Y (.inr (.inl (b,())))) ((0:Z),[],())).bind λc=>match c with
 |.inl (j,_)=>(Y (j,(((j.length:X):Z)==h),()))
 |.inr d=>Y d
def Dc:(dO×Z×bt)->ag9:=λ(a,g,_)=>(bif br ((((a.2.2.1).length:X):Z)<bK.wrap (a.2.1-a.1)) then Y (bq,()) else((loop (σ:=eo) (ρ:=ed) (λ(b,_)=>bif br (b<(((a.2.2.1).length:X):Z)) then(bB (α:=bt⊕dP) ((al a.2.2.1 b).bind λc=>bB (α:=en) (bw (br (b<bK.wrap (a.2.1-a.1))==bp) (Y ((c !=bK.wrap (a.1+b)),())) (Y (bq,()))) λ(f,_)=>bw f (bw f (Y (.inr (.inr (.inr (bq,()))))) (Y (.inl ()))) (bw (br (b>=bK.wrap (a.2.1-a.1))==bp) (bw (br (c<a.2.1)==bq) (bw (br (c>=g)==bq) ((al a.2.2.1 (bK.wrap (b-(1:Z)))).bind λh=>bw (br (c<=h)) (Y (.inr (.inr (.inr (bq,()))))) (Y (.inl ()))) (Y (.inr (.inr (.inr (bq,())))))) (Y (.inr (.inr (.inr (bq,())))))) (Y (.inl ())))) λd=>match d with
 |.inl _=>(Y (.inl (bK.wrap (b+(1:Z)),())))
 |.inr e=>Y e) else Y (.inr (.inl ()))) ((0:Z),())).bind λd=>match d with
 |.inl _=>(Y (bp,()))
 |.inr e=>Y e))
def Db:(bm dO×ahc×dO×bt)->ag9:=λ(f,g,a,_)=>((gy (bK.wrap (a.2.1-a.1))).bind λd=>(Y ((a.2.2.1).length)).bind λe=>(hb d e (a.2.2.1).length).map λ_=>(d,e)).bind λb=>(bif (((((a.2.2.1).take b.2).drop b.1).length:X):Z)==(0:Z) then Y ((a.2.2.2.1==(-1:Z)),()) else(al (((a.2.2.1).take b.2).drop b.1) (0:Z)).bind λm=>(al g m).bind λn=>bif a.2.2.2.1 !=n then Y (bq,()) else((loop (σ:=eo) (ρ:=ed) (λ(c,_)=>bw (br (c<(((((a.2.2.1).take b.2).drop b.1).length:X):Z))) ((al (((a.2.2.1).take b.2).drop b.1) c).bind λk=>(al f a.2.2.2.1).bind λl=>(us (l.2.2.1,k,())).bind λ(_,j,_)=>bw (!j) (Y (.inr (.inr (bq,())))) (Y (.inl (bK.wrap (c+(1:Z)),())))) (Y (.inr (.inl ())))) ((0:Z),())).bind λh=>match h with
 |.inl _=>(Y (bp,()))
 |.inr i=>Y i))
def GX:(dO×ag6×bt)->ag9:=λ(a,b,_)=>b.bind λc=>(Dc (a,c,())).bind λ(aE,_)=>Y ((!aE),())
def Gu:dm->aha:=λ(b,c,_)=>(loop (σ:=eo) (ρ:=ee) (λ(a,_)=>bw (br (a<((b.length:X):Z))) ((al b a).bind λg=>(GX (g,c.1,())).bind λ(f,_)=>bw f (Y (.inr (.inr (a,())))) (Y (.inl (bK.wrap (a+(1:Z)),())))) (Y (.inr (.inl ())))) ((0:Z),())).bind λd=>match d with
 |.inl _=>(Y ((-1:Z),()))
 |.inr e=>Y e
def Cy:dm->ag9:=λ(c,a,_)=>(Gu (c,(a.1,()),())).bind λ(b,_)=>Y (br (b>=(0:Z)),())
def GY:(dO×bv dD×es×bt)->ag9:=λ(a,b,c,_)=>b.bind λe=>c.bind λf=>(Db (e,f,a,())).bind λ(d,_)=>Y ((!d),())
def Gv:di->aha:=λ(c,b,_)=>(loop (σ:=eo) (ρ:=ee) (λ(a,_)=>bw (br (a<((c.length:X):Z))) ((al c a).bind λg=>(GY (g,b.1,b.2.1,())).bind λ(f,_)=>bw f (Y (.inr (.inr (a,())))) (Y (.inl (bK.wrap (a+(1:Z)),())))) (Y (.inr (.inl ())))) ((0:Z),())).bind λd=>match d with
 |.inl _=>(Y ((-1:Z),()))
 |.inr e=>Y e
def Cz:di->ag9:=λ(c,a,_)=>(Gv (c,(a.1,a.2.1,()),())).bind λ(b,_)=>Y (br (b>=(0:Z)),())
def uA:dk->aha:=λ(c,d,_)=>(yT (c,())).bind λ(i,_)=>(bif i !=(0:Z) then Y (i,()) else((Da (d,(((c.1).length:X):Z),())).bind λ(aE,p,_)=>bB (α:=eh⊕eo) (bw ((!p)==bq) ((Cy (d,(Y (((c.1).length:X):Z),()),())).bind λ(q,_)=>bw q (Y (.inr ((211:Z),()))) (Y (.inl (aE,())))) (Y (.inr ((211:Z),())))) λa=>match a with
 |.inl (h,_)=>((Cz (d,(Y d,Y h,()),())).bind λ(r,_)=>bif r then Y ((211:Z),()) else((loop (σ:=eb) (ρ:=ee) (λ(e,l,_)=>bif br (e<(((c.1).length:X):Z)) then((al c.1 e).bind λj=>(loop (σ:=eb) (ρ:=dq) (λ(g,f,_)=>bif br (g<((j.length:X):Z)) then(bB (α:=eh⊕(eb⊕dq)) ((al j g).bind λk=>bw (br (k>e)) (Y (.inl (f,()))) ((al f k).bind λs=>(al d s).bind λt=>(us (t.2.2.1,e,())).bind λ(_,o,_)=>bw (!o) (Y (.inr (.inr (.inr (.inr (.inr ((211:Z),()))))))) (Y (.inl (f,()))))) λa=>match a with
 |.inl (m,_)=>(Y (.inl (bK.wrap (g+(1:Z)),m,())))
 |.inr b=>Y b) else Y (.inr (.inl (f,())))) ((0:Z),l,())).bind λa=>match a with
 |.inl (n,_)=>(Y (.inl (bK.wrap (e+(1:Z)),n,())))
 |.inr b=>Y b) else Y (.inr (.inl ()))) ((0:Z),h,())).bind λa=>match a with
 |.inl _=>(Y ((0:Z),()))
 |.inr b=>Y b))
 |.inr b=>Y b))
def C3:dx->aha:=λ(b,e,_)=>(loop (σ:=eo) (ρ:=ee) (λ(a,_)=>bif br (a<((b.length:X):Z)) then(bB (α:=bt⊕dQ) (bB (α:=en) ((al b a).bind λg=>bw (br (g.1<=e)==bp) ((al b a).bind λh=>Y (br (e<h.2.1),())) (Y (bq,()))) λ(f,_)=>bw f (Y (.inr (.inr (.inr (a,()))))) (Y (.inl ()))) λc=>match c with
 |.inl _=>(Y (.inl (bK.wrap (a+(1:Z)),())))
 |.inr d=>Y d) else Y (.inr (.inl ()))) ((0:Z),())).bind λc=>match c with
 |.inl _=>(Y ((-1:Z),()))
 |.inr d=>Y d
def zw:dk->aha:=λ(f,c,_)=>(uz (f,())).bind λ(o,_)=>(bif o !=(0:Z) then Y (o,()) else((loop (σ:=ej) (ρ:=dV) (λ(k,h,_)=>bif br (h<((c.length:X):Z)) then(bB (α:=eo⊕dE) (bB (α:=bt⊕(eo⊕dE)) ((al c h).bind λJ=>bw ((J.1 !=k)==bq) ((al c h).bind λK=>bw (br (K.2.1<=k)==bq) ((al c h).bind λL=>bw (br (L.2.1>(((f.1).length:X):Z))) (Y (.inr (.inr (.inr (.inr ((211:Z),())))))) (Y (.inl ()))) (Y (.inr (.inr (.inr (.inr ((211:Z),()))))))) (Y (.inr (.inr (.inr (.inr ((211:Z),()))))))) λa=>match a with
 |.inl _=>((al c h).bind λM=>Y (.inl (M.2.1,())))
 |.inr b=>Y b) λa=>match a with
 |.inl (q,_)=>(Y (.inl (q,bK.wrap (h+(1:Z)),())))
 |.inr b=>Y b) else Y (.inr (.inl (k,())))) ((0:Z),(0:Z),())).bind λa=>match a with
 |.inl (r,_)=>(bif r !=(((f.1).length:X):Z) then Y ((211:Z),()) else((loop (σ:=eo) (ρ:=ee) (λ(e,_)=>bif br (e<((c.length:X):Z)) then(bB (α:=bt⊕dQ) ((al c e).bind λd=>(al c e).bind λi=>(al c e).bind λj=>bB (α:=bt⊕dI) ((zf (d.2.2.1,())).bind λ(s,_)=>bif (!s)==bq then bif br ((((d.2.2.1).length:X):Z)<bK.wrap (i.2.1-j.1))==bq then(al d.2.2.1 (0:Z)).bind λx=>(al c e).bind λy=>bif (x !=y.1)==bq then(al d.2.2.1 (bK.wrap (bK.wrap (i.2.1-j.1)-(1:Z)))).bind λz=>(al c e).bind λA=>bif (z !=bK.wrap (A.2.1-(1:Z)))==bq then(al d.2.2.1 (bK.wrap ((((d.2.2.1).length:X):Z)-(1:Z)))).bind λB=>bif br (B>=(((f.1).length:X):Z)) then Y (.inr (.inr (.inr (.inr ((211:Z),()))))) else
 Y (.inl ()) else Y (.inr (.inr (.inr (.inr ((211:Z),()))))) else Y (.inr (.inr (.inr (.inr ((211:Z),()))))) else Y (.inr (.inr (.inr (.inr ((211:Z),()))))) else Y (.inr (.inr (.inr (.inr ((211:Z),())))))) λa=>match a with
 |.inl _=>(bB (α:=eo) (bw (br ((((d.2.2.1).length:X):Z)>bK.wrap (i.2.1-j.1))) ((al d.2.2.1 (bK.wrap (i.2.1-j.1))).bind λC=>(C3 (c,C,())).bind λ(t,_)=>Y (t,())) (Y ((-1:Z),()))) λ(n,_)=>(al c e).bind λD=>bif D.2.2.2.1 !=n then Y (.inr (.inr (.inr ((211:Z),())))) else((loop (σ:=eo) (ρ:=dA) (λ(l,_)=>bw (br (l<(((d.2.2.1).length:X):Z))) ((al c n).bind λE=>(al d.2.2.1 l).bind λF=>(sp (E.2.2.1,F,())).bind λ(u,_)=>bw (!u) (Y (.inr (.inr (.inr (.inr (.inr ((211:Z),()))))))) (Y (.inl (bK.wrap (l+(1:Z)),())))) (Y (.inr (.inl ())))) (bK.wrap (i.2.1-j.1),())).bind λa=>match a with
 |.inl _=>(Y (.inl ()))
 |.inr b=>Y b))
 |.inr b=>Y b) λa=>match a with
 |.inl _=>(Y (.inl (bK.wrap (e+(1:Z)),())))
 |.inr b=>Y b) else Y (.inr (.inl ()))) ((0:Z),())).bind λa=>match a with
 |.inl _=>((loop (σ:=eo) (ρ:=ee) (λ(g,_)=>bif br (g<(((f.1).length:X):Z)) then((loop (σ:=eo) (ρ:=dI) (λ(m,_)=>(al f.1 g).bind λG=>bif br (m<((G.length:X):Z)) then(bB (α:=bt⊕dv) ((al f.1 g).bind λH=>(al H m).bind λp=>bw (br (p>g)==bp) ((C3 (c,g,())).bind λ(v,_)=>(al c v).bind λI=>(sp (I.2.2.1,p,())).bind λ(w,_)=>bw (!w) (Y (.inr (.inr (.inr (.inr (.inr ((211:Z),()))))))) (Y (.inl ()))) (Y (.inl ()))) λa=>match a with
 |.inl _=>(Y (.inl (bK.wrap (m+(1:Z)),())))
 |.inr b=>Y b) else Y (.inr (.inl ()))) ((0:Z),())).bind λa=>match a with
 |.inl _=>(Y (.inl (bK.wrap (g+(1:Z)),())))
 |.inr b=>Y b) else Y (.inr (.inl ()))) ((0:Z),())).bind λa=>match a with
 |.inl _=>(Y ((0:Z),()))
 |.inr b=>Y b)
 |.inr b=>Y b))
 |.inr b=>Y b))
def CN:ea->ag9:=λ(b,c,_)=>(bif ((b.length:X):Z)!=c then Y (bq,()) else((fX c c).bind λk=>(loop (σ:=dZ) (ρ:=ed) (λ(a,g,_)=>bif br (a<c) then(bB (α:=ef⊕dC) (bB (α:=ef⊕(ef⊕dC)) ((al b a).bind λo=>bw (br (o<(0:Z))==bq) ((al b a).bind λp=>bw (br (p>=c)==bq) ((al b a).bind λq=>(bj g.length q).bind λj=>(bb g j λi=>Y i).bind λm=>bw m (Y (.inr (.inr (.inr (.inr (bq,())))))) (Y (.inl (g,())))) (Y (.inr (.inr (.inr (.inr (bq,()))))))) (Y (.inr (.inr (.inr (.inr (bq,()))))))) λd=>match d with
 |.inl (f,_)=>((al b a).bind λn=>(bj f.length n).bind λh=>(bb f h λ_=>Y (f.set h bp)).bind λr=>Y (.inl (r,())))
 |.inr e=>Y e) λd=>match d with
 |.inl (l,_)=>(Y (.inl (bK.wrap (a+(1:Z)),l,())))
 |.inr e=>Y e) else Y (.inr (.inl ()))) ((0:Z),bJ k bq,())).bind λd=>match d with
 |.inl _=>(Y (bp,()))
 |.inr e=>Y e))
def q2:dG->bv dN:=λ(a,b,_)=>(uz (a,())).bind λ(c,_)=>(bw (c !=(0:Z)) (Y (([],()),c,())) (bw (((b.length:X):Z)!=(((a.1).length:X):Z)) (Y (([],()),(2:Z),())) ((CN (b,(((a.1).length:X):Z),())).bind λ(aE,_)=>bw (!aE) (Y (([],()),(90:Z),())) ((C1 (a,b,())).bind λ(d,e,_)=>Y (d,e,())))))
section
open Go
def AS (c:ahc->es) (a:ahc):bv bA:=bif b2 a.length 1000000 then(c a).bind λb=>bif b2 b.length 1000000 then Y (br ((ah5 b).length<a.length)) else bo else bo
end
def BY:dN->ag9:=λ(b,a,_)=>(bw (br (a>=(0:Z))==bp) (Y (br (a<(((b.1).length:X):Z)),())) (Y (bq,())))
def wK:eo->aha:=λ(a,_)=>bB (α:=ej) (bw (br (a>=(65536:Z))) ((eM cb a (16:Z)).bind λg=>Y (g,(16:Z),())) (Y (a,(0:Z),()))) λ(b,c,_)=>bB (α:=ej) (bw (br (b>=(256:Z))) ((eM cb b (8:Z)).bind λh=>Y (h,bK.wrap (c+(8:Z)),())) (Y (b,c,()))) λ(f,e,_)=>(qo DU (akZ.wrap f)).bind λd=>Y (bK.wrap (e+bK.wrap d),())
def LY:eo->aha:=λ(a,_)=>bB (α:=ej) (bw (br (a>=(4294967296:Z))) ((eM bC a (32:Z)).bind λi=>Y (i,(32:Z),())) (Y (a,(0:Z),()))) λ(b,d,_)=>bB (α:=ej) (bw (br (b>=(65536:Z))) ((eM bC b (16:Z)).bind λj=>Y (j,bK.wrap (d+(16:Z)),())) (Y (b,d,()))) λ(c,e,_)=>bB (α:=ej) (bw (br (c>=(256:Z))) ((eM bC c (8:Z)).bind λk=>Y (k,bK.wrap (e+(8:Z)),())) (Y (c,e,()))) λ(h,g,_)=>(qo DU (akZ.wrap h)).bind λf=>Y (bK.wrap (g+bK.wrap f),())
def Cp:eo->aha:=λ(b,_)=>(LY (b,())).bind λ(a,_)=>Y (a,())
def CG:(ahc×Z×Z×bt)->bv eh:=λ(k,f,j,_)=>(loop (σ:=eb) (ρ:=eh) (λ(d,g,_)=>bif br (d<j) then(loop (σ:=eb) (ρ:=eh) (λ(a,c,_)=>bB (α:=eh⊕dJ) (bw (br (a>f)==bp) ((bj c.length a).bind λu=>(bb c u λq=>Y q).bind λy=>(bj c.length (bK.wrap (a-(1:Z)))).bind λr=>(bb c r λn=>Y n).bind λz=>(ug (y,z,())).bind λ(x,_)=>bw x (Y (.inl (c,()))) (Y (.inr (.inr (c,()))))) (Y (.inr (.inr (c,()))))) λv=>match v with
 |.inl (b,_)=>((bj b.length (bK.wrap (a-(1:Z)))).bind λs=>(bb b s λo=>Y o).bind λA=>(bj b.length a).bind λt=>(bb b t λp=>Y p).bind λB=>(bj b.length a).bind λh=>(bb b h λ_=>Y (b.set h A)).bind λe=>(bj e.length (bK.wrap (a-(1:Z)))).bind λi=>(bb e i λ_=>Y (e.set i B)).bind λC=>Y (.inl (bK.wrap (a-(1:Z)),C,())))
 |.inr w=>Y w) (d,g,())).bind λ(l,_)=>Y (.inl (bK.wrap (d+(1:Z)),l,())) else Y (.inr (g,()))) (bK.wrap (f+(1:Z)),k,())).bind λ(m,_)=>Y (m,())
def CJ:(ahc×Z×Z×Z×bt)->bv eh:=λ(e,c,d,g,_)=>(loop (σ:=(Z×Z×Z×bA×bA×ahc×bt)) (ρ:=eh) (λ(a,b,_,_,_,f,_)=>bw (br (bK.wrap (b-a)<=(12:Z))) ((CG (f,a,b,())).bind λ(h,_)=>Y (.inr (h,()))) bo) (c,d,g,bp,bp,e,())).bind Y
def zc:eh->bv eh:=λ(a,_)=>(Cp (bC.wrap ((a.length:X):Z),())).bind λ(c,_)=>(CJ (a,(0:Z),((a.length:X):Z),c,())).bind λ(b,_)=>Y (b,())
def BX:ahc×bt->ag9:=λa=>(AS (λc=>(zc (c,())).map λd=>d.1) a.1).map λb=>(b,())
def Gj:(Z×bv dW×bt)->ag9:=λ(b,a,_)=>a.bind λc=>(BY (c,b,())).bind λ(aE,_)=>Y ((!aE),())
def Gw:du->aha:=λ(b,c,_)=>(loop (σ:=eo) (ρ:=ee) (λ(a,_)=>bw (br (a<((b.length:X):Z))) ((al b a).bind λg=>(Gj (g,c.1,())).bind λ(f,_)=>bw f (Y (.inr (.inr (a,())))) (Y (.inl (bK.wrap (a+(1:Z)),())))) (Y (.inr (.inl ())))) ((0:Z),())).bind λd=>match d with
 |.inl _=>(Y ((-1:Z),()))
 |.inr e=>Y e
def CB:du->ag9:=λ(c,a,_)=>(Gw (c,(a.1,()),())).bind λ(b,_)=>Y (br (b>=(0:Z)),())
def BT:dG->aha:=λ(a,b,_)=>(yT (a,())).bind λ(c,_)=>(bw (c !=(0:Z)) (Y (c,())) (bw (((b.length:X):Z)!=(((a.1).length:X):Z)) (Y ((2:Z),())) ((CB (b,(Y a,()),())).bind λ(aE,_)=>bw (aE==bq) ((BX (b,())).bind λ(d,_)=>bw d (Y ((90:Z),())) (Y ((0:Z),()))) (Y ((90:Z),())))))
def yV:eo->bv dU:=λ(a,_)=>(fX a a).bind λe=>(loop (σ:=dS) (ρ:=dU) (λ(c,b,_)=>bw (br (c<((((bJ e []):eu).length:X):Z))) ((fX a a).bind λf=>(bj b.length c).bind λd=>(bb b d λ_=>Y (b.set d (bJ f bq))).bind λh=>Y (.inl (bK.wrap (c+(1:Z)),h,()))) (Y (.inr (b,())))) ((0:Z),bJ e [],())).bind λ(g,_)=>Y (g,())
def yY:(eu×Z×Z×bt)->bv dU:=λ(a,d,e,_)=>(bw (d !=e) ((bj a.length d).bind λb=>(bj a.length e).bind λc=>((bb a b λm=>Y m).bind λn=>bj n.length e).bind λi=>(bb a b λg=>(bb g i λ_=>Y (g.set i bp)).map λo=>a.set b o).bind λf=>((bb f c λk=>Y k).bind λl=>bj l.length d).bind λj=>(bb f c λh=>(bb h j λ_=>Y (h.set j bp)).map λp=>f.set c p).bind λq=>Y (q,())) (Y (a,())))
def BU:(eu×Z×bt)->bv eh:=λ(f,g,_)=>(al f g).bind λc=>(loop (σ:=eb) (ρ:=eh) (λ(a,b,_)=>bw (br (a<((c.length:X):Z))) (bB (α:=eh) ((al c a).bind λh=>bw h ((cG (b.length+([a]).length)).bind λ_=>Y ((b++[a]),())) (Y (b,()))) λ(d,_)=>Y (.inl (bK.wrap (a+(1:Z)),d,()))) (Y (.inr (b,())))) ((0:Z),[],())).bind λ(e,_)=>Y (e,())
def yX:dU->bv dR:=λ(b,_)=>(fX ((b.length:X):Z) ((b.length:X):Z)).bind λg=>(loop (σ:=dr) (ρ:=dt) (λ(c,e,a,_)=>bw (br (c<((b.length:X):Z))) ((BU (b,c,())).bind λ(h,_)=>(bj (a.1).length c).bind λd=>((bb a.1 d λ_=>Y ((a.1).set d h)).map λi=>(i,a.2)).bind λj=>Y (.inl (bK.wrap (c+(1:Z)),e,j,()))) (Y (.inr (e,a,())))) ((0:Z),([],()),(bJ g [],()),())).bind λ(_,f,_)=>Y (f,())
def BW:dG->bv dR:=λ(k,a,_)=>(yV (((a.length:X):Z),())).bind λ(o,_)=>(loop (σ:=dw) (ρ:=dy) (λ(b,i,j,_)=>bif br (b<((a.length:X):Z)) then(al a b).bind λv=>((Y (0)).bind λg=>(gy b).bind λh=>(hb g h a.length).map λ_=>(g,h)).bind λc=>(loop (σ:=dw) (ρ:=dy) (λ(d,e,f,_)=>bif br (d<((((a.take c.2).drop c.1).length:X):Z)) then bB (α:=dy) ((al ((a.take c.2).drop c.1) d).bind λu=>(wD (k,v,u,())).bind λ(m,_)=>bw m ((yY (f,b,d,())).bind λ(l,_)=>Y (e,l,())) (Y (e,f,()))) λ(p,q,_)=>
 Y (.inl (bK.wrap (d+(1:Z)),p,q,())) else Y (.inr (e,f,()))) ((0:Z),i,j,())).bind λ(r,s,_)=>Y (.inl (bK.wrap (b+(1:Z)),r,s,())) else Y (.inr (i,j,()))) ((0:Z),([],()),o,())).bind λ(_,t,_)=>(yX (t,())).bind λ(n,_)=>Y (n,())
def yW:dG->bv dN:=λ(a,b,_)=>(BT (a,b,())).bind λ(c,_)=>(bw (c !=(0:Z)) (Y (([],()),c,())) ((BW (a,b,())).bind λ(aE,_)=>Y (aE,(0:Z),())))
def uf:ej->aha:=λ(a,b,_)=>(si (a,())).bind λ(c,_)=>(si (b,())).bind λ(aE,_)=>(bw c (bw aE (Y ((0:Z),())) (Y ((-1:Z),()))) (bw aE (Y ((1:Z),())) (bw (br (a<b)) (Y ((-1:Z),())) (bw (br (a>b)) (Y ((1:Z),())) (Y ((0:Z),()))))))
def BI:eh->aha:=λ(b,_)=>(loop (σ:=eo) (ρ:=ee) (λ(a,_)=>bw (br (a<((b.length:X):Z))) ((al b a).bind λc=>bw (c !=(0:Z)) (Y (.inr (.inr (c,())))) (Y (.inl (bK.wrap (a+(1:Z)),())))) (Y (.inr (.inl ())))) ((0:Z),())).bind λd=>match d with
 |.inl _=>(Y ((0:Z),()))
 |.inr e=>Y e
abbrev bi:Type:=ahc
abbrev ht:Type:=(bi×bt)
abbrev eX:Type:=(bA×ht)
abbrev cJ:Type:=eo
abbrev fL:Type:=(bA×(eX×cJ))
abbrev Sq:Type:=(bi×(bi×ht))
abbrev kT:Type:=(bm (Z×(Z×cJ)))
abbrev fJ:Type:=(Z×(Z×Sq))
abbrev hK:Type:=en
abbrev qN:Type:=(Z×((bm bi×bt)×(bm (bv (bm (Z×fL)×X))×bt)))
abbrev jI:Type:=(bm (Z×(Z×(bi×cJ))))
abbrev hh:Type:=(fL×bt)
abbrev gO:Type:=(eX×bt)
abbrev lq:Type:=(fL×fL×bt)
abbrev iO:Type:=(Z×bi×bt)
abbrev g8:Type:=ag8
abbrev qO:Type:=(bt⊕hK)
abbrev jJ:Type:=(kT×bt)
abbrev Sr:Type:=(kT×Z×Z×Z×bt×bt)
abbrev n4:Type:=(Z×kT×bt)
abbrev ka:Type:=(bi×bi×bt)
abbrev lr:Type:=(eX×eX×bt)
abbrev np:Type:=(bt⊕cJ)
abbrev nq:Type:=(bi×Z×bt)
abbrev nr:Type:=ej
abbrev kb:Type:=(jI×bm g8×bt)
abbrev yw:Type:=(Z×Z×kT×bt)
abbrev wb:Type:=(bA×(eX×(Z×hK)))
abbrev pL:Type:=(Z×Z×bi×bt)
abbrev pM:Type:=(eX×Z×bt)
abbrev n5:Type:=(fJ×bt)
def mq:ht->bv ht:=λ(c,_)=>(loop (σ:=cJ) (ρ:=cJ) (λ(a,_)=>bB (α:=bt⊕(cJ⊕cJ)) (bw (br (a>0)==bp) ((al c (ay (a-1))).bind λj=>bw (j==0) (Y (.inl ())) (Y (.inr (.inr (a,()))))) (Y (.inr (.inr (a,()))))) λh=>match h with
 |.inl _=>(Y (.inl (ay (a-1),())))
 |.inr i=>Y i) (ak c,())).bind λ(f,_)=>(loop (σ:=iO) (ρ:=ht) (λ(b,d,_)=>bw (br (b<f)) ((al c b).bind λe=>(cG (d.length+([e]).length)).bind λ_=>Y (.inl (aP b,(d++[e]),()))) (Y (.inr (d,())))) (0,[],())).bind λ(g,_)=>Y (g,())
def lZ:(bA×bi×bt)->bv gO:=λ(c,b,_)=>(mq (b,())).bind λ(a,_)=>(bw (c==bp) (Y ((br (ak a>0),(a,())),())) (Y ((bq,(a,())),())))
def sr:cJ->bv gO:=λ(a,_)=>bB (α:=(Z×eX×bt)) (bw (br (a<0)) (Y (aJ (aJ (ay (0-aP a))+1),(bq,([],())),())) (Y (aJ a,(bq,([],())),()))) λ(b,_,_)=>(eM bC b 32).bind λd=>(lZ (br (a<0),[db b,db d],())).bind λ(c,_)=>Y (c,())
def pX:gO->bv gO:=λ(a,_)=>(lZ (a.1,a.2.1,())).bind λ(b,_)=>Y (b,())
def uy:bt->bv hh:=λ_=>Y ((bp,((bq,([],())),((0:Z),()))),())
def wL:cJ->bv cJ:=λ(a,_)=>(bw (a==0) (Y (32,())) ((eM cb (db (ey cb a (db (0-a))*125613361)) 27).bind λb=>(al pR b).bind λc=>Y (ay c,())))
def qZ:gO->bv cJ:=λ(c,_)=>(mq (c.2.1,())).bind λ(b,_)=>(loop (σ:=cJ) (ρ:=np) (λ(a,_)=>bw (br (a<ak b)) ((al b a).bind λg=>bw (g !=0) ((al b a).bind λh=>(wL (h,())).bind λ(f,_)=>Y (.inr (.inr (ay (ay (32*a)+f),())))) (Y (.inl (aP a,())))) (Y (.inr (.inl ())))) (0,())).bind λd=>match d with
 |.inl _=>(Y (0,()))
 |.inr e=>Y e
def qY:gO->bv gO:=λ(a,_)=>(lZ (bq,a.2.1,())).bind λ(b,_)=>Y (b,())
def wQ:nq->bv ht:=λ(f,g,_)=>(km bK g 32).bind λi=>(fX i i).bind λj=>(loop (σ:=pL) (ρ:=iO) (λ(a,b,c,_)=>bw (br (b<ak f)) ((al f b).bind λl=>(i4 g 32).bind λm=>(h6 bC (aJ l) m).bind λd=>(cG (c.length+([db (fN bC a d)]).length)).bind λ_=>(eM bC (fN bC a d) 32).bind λk=>Y (.inl (k,aP b,(c++[db (fN bC a d)]),()))) (Y (.inr (a,c,())))) (0,0,bJ j (0:Z),())).bind λ(e,h,_)=>(cG (h.length+([db e]).length)).bind λ_=>Y ((h++[db e]),())
def wR:nq->bv (bi×bA×bt):=λ(b,d,_)=>(loop (σ:=ei) (ρ:=hK) (λ(e,c,_)=>bB (α:=bt⊕(ei⊕hK)) ((km bK d 32).bind λw=>bw (br (c<w)==bp) (bw (br (c<ak b)) (Y (.inl ())) (Y (.inr (.inr (e,()))))) (Y (.inr (.inr (e,()))))) λt=>match t with
 |.inl _=>(bB (α:=hK) (bw (e==bq) ((al b c).bind λx=>Y ((x !=0),())) (Y (bp,()))) λ(m,_)=>Y (.inl (m,aP c,())))
 |.inr u=>Y u) (bq,0,())).bind λ(n,_)=>(i4 d 32).bind λj=>(km bK d 32).bind λy=>(loop (σ:=(bA×Z×bi×bt)) (ρ:=(bA×bi×bt)) (λ(f,a,g,_)=>bif br (a<ak b) then bB (α:=(bA×bi×bt)) ((al b a).bind λk=>bB (α:=iO) (bw (br (aP a<ak b)) ((al b (aP a)).bind λz=>(h6 bC (aJ z) 32).bind λA=>Y (fN bC (aJ k) A,g,())) (Y (aJ k,g,()))) λ(v,h,_)=>bB (α:=(bA×bi×bt)) ((km bK d 32).bind λB=>bw ((a==B)==bp) ((al b a).bind λC=>(h6 cb 1 j).bind λD=>bw (ey cb C (db (D-1))!=0) (Y (bp,h,())) (Y (f,h,()))) (Y (f,h,()))) λ(o,i,_)=>(eM bC v j).bind λl=>(cG (i.length+([db l]).length)).bind λ_=>Y (o,(i++[db l]),())) λ(p,r,_)=>Y (.inl (p,aP a,r,())) else
 Y (.inr (f,g,()))) (n,y,[],())).bind λ(q,s,_)=>Y (s,q,())
def zi:gO->bv gO:=λ(a,_)=>(lZ ((!a.1),a.2.1,())).bind λ(b,_)=>Y (b,())
def CQ:ka->bv ht:=λ(b,c,_)=>(loop (σ:=pL) (ρ:=iO) (λ(e,a,f,_)=>bw (br (a<(if(ak c)>ak b then ak c else ak b))) (bB (α:=iO) (bB (α:=iO) (bw (br (a<ak b)) ((al b a).bind λo=>Y (aJ (e+aJ o),f,())) (Y (e,f,()))) λ(h,k,_)=>bB (α:=iO) (bw (br (a<ak c)) ((al c a).bind λp=>Y (aJ (h+aJ p),k,())) (Y (h,k,()))) λ(d,i,_)=>(cG (i.length+([db d]).length)).bind λ_=>(eM bC d 32).bind λn=>Y (n,(i++[db d]),())) λ(l,m,_)=>Y (.inl (l,aP a,m,()))) (Y (.inr (e,f,())))) (0,0,[],())).bind λ(g,j,_)=>(cG (j.length+([db g]).length)).bind λ_=>Y ((j++[db g]),())
def zj:ka->bv cJ:=λ(b,c,_)=>(bif ak b !=ak c then bw (br (ak b<ak c)) (Y ((-1:Z),())) (Y (1,())) else((loop (σ:=cJ) (ρ:=np) (λ(a,_)=>bw (br (a>=0)) ((al b a).bind λf=>(al c a).bind λg=>bw (f !=g) ((al b a).bind λh=>(al c a).bind λi=>bw (br (h<i)) (Y (.inr (.inr ((-1:Z),())))) (Y (.inr (.inr (1,()))))) (Y (.inl (ay (a-1),())))) (Y (.inr (.inl ())))) (ay (ak b-1),())).bind λd=>match d with
 |.inl _=>(Y (0,()))
 |.inr e=>Y e))
def zk:ka->bv ht:=λ(d,e,_)=>(loop (σ:=pL) (ρ:=ht) (λ(f,a,b,_)=>bw (br (a<ak d)) (bB (α:=iO) ((al d a).bind λh=>bB (α:=iO) (bw (br (a<ak e)) ((al e a).bind λm=>Y (aJ (aJ (aJ h-f)-aJ m),b,())) (Y (aJ (aJ h-f),b,()))) λ(c,g,_)=>(cG (g.length+([db c]).length)).bind λ_=>(eM bC c 63).bind λl=>Y (l,(g++[db c]),())) λ(i,j,_)=>Y (.inl (i,aP a,j,()))) (Y (.inr (b,())))) (0,0,[],())).bind λ(k,_)=>Y (k,())
def sq:lr->bv gO:=λ(a,c,_)=>(mq (a.2.1,())).bind λ(b,_)=>(mq (c.2.1,())).bind λ(aE,_)=>(bw (a.1==c.1) ((CQ (b,aE,())).bind λ(f,_)=>(lZ (a.1,f,())).bind λ(g,_)=>Y (g,())) ((zj (b,aE,())).bind λ(h,_)=>bw (br (h>=0)) ((zk (b,aE,())).bind λ(i,_)=>(lZ (a.1,i,())).bind λ(j,_)=>Y (j,())) ((zk (aE,b,())).bind λ(d,_)=>(lZ (c.1,d,())).bind λ(e,_)=>Y (e,()))))
def wP:lr->bv gO:=λ(a,b,_)=>(zi (b,())).bind λ(c,_)=>(sq (a,c,())).bind λ(aE,_)=>Y (aE,())
def n9:pM->bv gO:=λ(f,b,_)=>(pX (f,())).bind λ(a,_)=>(bw (br (b>=0)) ((wQ (a.2.1,b,())).bind λ(aE,_)=>(lZ (a.1,aE,())).bind λ(j,_)=>Y (j,())) ((wR (a.2.1,ay (0-b),())).bind λ(k,l,_)=>(lZ (a.1,k,())).bind λ(d,_)=>bB (α:=lr) (bB (α:=(bA×eX×eX×bt)) (bw (a.1==bp) (Y (l,(bq,([],())),d,())) (Y (bq,(bq,([],())),d,()))) λ(m,e,c,_)=>bw m ((sr (1,())).bind λ(h,_)=>(wP (c,h,())).bind λ(i,_)=>Y (e,i,())) (Y (e,c,()))) λ(_,g,_)=>Y (g,())))
def wU:pM->bv gO:=λ(d,f,_)=>(loop (σ:=(Z×eX×eX×bt)) (ρ:=(Z×eX×eX×bt)) (λ(a,b,c,_)=>bw (br (a>1048576)) ((n9 (b,(-1048576:Z),())).bind λ(i,_)=>Y (.inl (ay (a-1048576),i,c,()))) (Y (.inr (a,b,c,())))) (f,d,(bq,([],())),())).bind λ(g,e,_,_)=>(n9 (e,ay (0-g),())).bind λ(h,_)=>Y (h,())
def ux:gO->bv cJ:=λ(b,_)=>(mq (b.2.1,())).bind λ(a,_)=>(bw (ak a==0) (Y (0,())) ((al a (ay (ak a-1))).bind λc=>(wK (c,())).bind λ(aE,_)=>Y (ay (ay (32*ay (ak a-1))+aE),())))
def o3:pM->bv hh:=λ(e,a,_)=>(pX (e,())).bind λ(c,_)=>(bif ak c.2.1==0 then Y ((bq,((bq,([],())),((0:Z),()))),()) else bif br (a>65536) then(uy ()).bind λ(aE,_)=>Y (aE,()) else((qZ (c,())).bind λ(b,_)=>(qY (c,())).bind λ(k,_)=>(wU (k,b,())).bind λ(d,_)=>bB (α:=(fL×eX×bt)⊕hh) (bB (α:=(bA×fL×eX×bt)) (bw (br (ay (a+b)<(-65536:Z))==bq) ((ux (d,())).bind λ(l,_)=>Y (br (ay (ay (a+b)+l)>65536),(bq,((bq,([],())),((0:Z),()))),d,())) (Y (bp,(bq,((bq,([],())),((0:Z),()))),d,()))) λ(n,m,f,_)=>bw n ((uy ()).bind λ(j,_)=>Y (.inr (j,()))) (Y (.inl (m,f,())))) λh=>match h with
 |.inl (_,g,_)=>(Y ((bq,((e.1,g.2),(ay (a+b),()))),()))
 |.inr i=>Y i))
def wS:cJ->bv hh:=λ(a,_)=>(sr (a,())).bind λ(b,_)=>(o3 (b,0,())).bind λ(c,_)=>Y (c,())
def mr:hh->bv hh:=λ(a,_)=>(bw a.1 ((uy ()).bind λ(b,_)=>Y (b,())) ((o3 (a.2.1,a.2.2.1,())).bind λ(c,_)=>Y (c,())))
def mY:gO->bv cJ:=λ(b,_)=>(pX (b,())).bind λ(a,_)=>(bw (ak a.2.1==0) (Y (0,())) (bw a.1 (Y ((-1:Z),())) (Y (1,()))))
def q0:ei->bv cJ:=λ(b,a,_)=>(bw b (Y (fN bC a 9223372036854775808,())) (Y (a,())))
def zm:ei->bv cJ:=λ(a,b,_)=>bB (α:=bt⊕cJ) (bB (α:=hK) (bw ((b==3)==bq) (bw ((b==1)==bp) (bw ((!a)==bq) (bw ((b==2)==bp) (Y (a,())) (Y (bq,()))) (Y (bp,()))) (bw ((b==2)==bp) (Y (a,())) (Y (bq,())))) (Y (bp,()))) λ(f,_)=>bw f ((q0 (a,9218868437227405311,())).bind λ(aE,_)=>Y (.inr (aE,()))) (Y (.inl ()))) λc=>match c with
 |.inl _=>((q0 (a,9218868437227405312,())).bind λ(e,_)=>Y (e,()))
 |.inr d=>Y d
def zh:pM->bv hK:=λ(a,b,_)=>(mq (a.2.1,())).bind λ(c,_)=>(wR (c,b,())).bind λ(_,d,_)=>Y (d,())
def CU:(bA×Z×bA×Z×bt)->bv hK:=λ(c,b,d,a,_)=>(bw (a==1) (Y (c,())) (bw (a==2) (Y ((!c),())) (bw (a==3) (Y (bq,())) (bw (br (b>0)==bq) (bw ((b==0)==bp) (Y (d,())) (Y (bq,()))) (Y (bp,()))))))
def CS:(bA×eX×Z×bA×Z×bt)->bv gO:=λ(q,b,a,h,p,_)=>(wU (b,a,())).bind λ(l,_)=>(zh (b,a,())).bind λ(D,_)=>bB (α:=lr⊕gO) (bB (α:=(bA×eX×eX×bt)) (bw ((!D)==bp) (Y ((!h),(bq,([],())),l,())) (Y (bq,(bq,([],())),l,()))) λ(F,G,i,_)=>bw F (Y (.inr (i,()))) (Y (.inl (G,i,())))) λs=>match s with
 |.inl (g,f,_)=>(bB (α:=(Z×eX×eX×bt)) (bw (br (a>0)) ((wU (b,ay (a-1),())).bind λ(k,_)=>bB (α:=(bA×eX×eX×bt)) ((qZ (k,())).bind λ(v,_)=>bw ((v==0)==bp) ((mY (k,())).bind λ(w,_)=>Y ((w !=0),g,f,())) (Y (bq,g,f,()))) λ(E,e,c,_)=>bw E (bw (h==bq) ((zh (b,ay (a-1),())).bind λ(x,_)=>bw x (Y (1,e,c,())) (Y (0,e,c,()))) (Y (1,e,c,()))) (Y ((-1:Z),e,c,()))) (Y ((-1:Z),g,f,()))) λ(o,m,d,_)=>bB (α:=(bA×eX×eX×bt)) ((mY (d,())).bind λ(y,_)=>bw ((y !=0)==bp) ((qZ (d,())).bind λ(z,_)=>Y ((z==0),m,d,())) (Y (bq,m,d,()))) λ(r,n,j,_)=>bB (α:=lr) ((CU (q,o,r,p,())).bind λ(A,_)=>
  bw A ((sr (1,())).bind λ(B,_)=>(sq (j,B,())).bind λ(C,_)=>Y (n,C,())) (Y (n,j,()))) λ(_,t,_)=>Y (t,()))
 |.inr u=>Y u
def CP:gO->bv eg:=λ(f,_)=>(pX (f,())).bind λ(d,_)=>(bw (br (ak d.2.1>2)) (Y (0,bq,())) ((loop (σ:=(Z×Z×eX×bt)) (ρ:=(Z×eX×bt)) (λ(e,b,a,_)=>bw (br (b<ak a.2.1)) ((al a.2.1 b).bind λh=>(h6 bC (aJ h) (ay (32*b))).bind λi=>Y (.inl (fN bC e i,aP b,a,()))) (Y (.inr (e,a,())))) (0,0,d,())).bind λ(c,g,_)=>bw g.1 (bw (br (c>9223372036854775808)) (Y (0,bq,())) (Y (ay (ay (0-ay (aJ (c-1)))-1),bp,()))) (bw (br (c>9223372036854775807)) (Y (0,bq,())) (Y (ay c,bp,())))))
def zn:(bA×eX×Z×bA×Z×bt)->bv cJ:=λ(c,e,a,i,f,_)=>(ux (e,())).bind λ(b,_)=>(bif br (ay (ay (a+b)-1)>=1024) then(zm (c,f,())).bind λ(p,_)=>Y (p,()) else(bB (α:=gO) (bw (br ((if(-1074:Z)>ay (ay (ay (a+b)-1)-52) then(-1074:Z) else ay (ay (ay (a+b)-1)-52))>=a)) ((CS (c,e,ay ((if(-1074:Z)>ay (ay (ay (a+b)-1)-52) then(-1074:Z) else ay (ay (ay (a+b)-1)-52))-a),i,f,())).bind λ(q,_)=>Y (q,())) ((n9 (e,ay (a-(if(-1074:Z)>ay (ay (ay (a+b)-1)-52) then(-1074:Z) else ay (ay (ay (a+b)-1)-52))),())).bind λ(r,_)=>Y (r,()))) λ(j,_)=>(CP (j,())).bind λ(g,_,_)=>bB (α:=nr) (bif g==9007199254740992 then Y (aP (if(-1074:Z)>ay (ay (ay (a+b)-1)-52) then(-1074:Z) else ay (ay (ay (a+b)-1)-52)),4503599627370496,()) else
 Y ((if(-1074:Z)>ay (ay (ay (a+b)-1)-52) then(-1074:Z) else ay (ay (ay (a+b)-1)-52)),g,())) λ(h,d,_)=>bB (α:=bt⊕cJ) (bB (α:=hK) (bw (br (d>=4503599627370496)==bp) (Y (br (ay (h+53)>1024),())) (Y (bq,()))) λ(s,_)=>bw s ((zm (c,f,())).bind λ(m,_)=>Y (.inr (m,()))) (bw (br (d>=4503599627370496)) ((h6 bC (aJ (ay (h+1075))) 52).bind λt=>(q0 (c,fN bC t (aJ (ay (d-4503599627370496))),())).bind λ(n,_)=>Y (.inr (n,()))) (Y (.inl ())))) λk=>match k with
 |.inl _=>((q0 (c,aJ d,())).bind λ(o,_)=>Y (o,()))
 |.inr l=>Y l))
def zl:(fL×Z×bt)->bv cJ:=λ(b,c,_)=>(mr (b,())).bind λ(a,_)=>(bw a.1 (Y (9221120237041090560,())) ((mY (a.2.1,())).bind λ(aE,_)=>bw (aE==0) (Y (0,())) ((qY (a.2.1,())).bind λ(d,_)=>(zn (a.2.1.1,d,a.2.2.1,bq,c,())).bind λ(e,_)=>Y (e,()))))
def CV:nr->bv cJ:=λ(b,a,_)=>(wS (b,())).bind λ(c,_)=>(zl (c,a,())).bind λ(aE,_)=>Y (aE,())
def wC:cJ->bv nr:=λ(a,_)=>(eM bC a 52).bind λb=>Y (ay (ey bC b 2047),ey bC a 4503599627370495,())
def nz:cJ->bv hK:=λ(a,_)=>(wC (a,())).bind λ(b,_,_)=>Y ((b !=2047),())
def iD:ht->bv ht:=λ(b,_)=>(loop (σ:=cJ) (ρ:=cJ) (λ(a,_)=>bB (α:=bt⊕(cJ⊕cJ)) (bw (br (a>0)==bp) ((al b (ay (a-1))).bind λi=>bw (i==0) (Y (.inl ())) (Y (.inr (.inr (a,()))))) (Y (.inr (.inr (a,()))))) λg=>match g with
 |.inl _=>(Y (.inl (ay (a-1),())))
 |.inr h=>Y h) (ak b,())).bind λ(f,_)=>((Y (0)).bind λc=>(gy f).bind λd=>(hb c d b.length).map λ_=>(c,d)).bind λe=>Y (((b.take e.2).drop e.1),())
def lY:(bA×bi×bt)->bv gO:=λ(c,b,_)=>(iD (b,())).bind λ(a,_)=>(bw (ak a==0) (Y ((bq,(([]:bi),())),())) (Y ((c,(a,())),())))
def um:cJ->bv gO:=λ(a,_)=>bB (α:=(Z×eX×bt)) (bw (br (a<0)) (Y (aJ (0-aJ a),(bq,([],())),())) (Y (aJ a,(bq,([],())),()))) λ(b,_,_)=>(eM bC b 32).bind λd=>(lY (br (a<0),[db (ey bC b 4294967295),db d],())).bind λ(c,_)=>Y (c,())
def BR:cJ->bv hK:=λ(a,_)=>Y ((ey bC a 9223372036854775808 !=0),())
def uu:ht->bv ht:=λ(a,_)=>rv a.length (Y ([],())) ((cG (([]:bi).length+a.length)).bind λ_=>Y (([]++a),()))
def sl:gO->bv gO:=λ(a,_)=>(uu (a.2.1,())).bind λ(b,_)=>(lY ((!a.1),b,())).bind λ(c,_)=>Y (c,())
def yQ:bt->bv hh:=λ_=>Y ((bp,((bq,([],())),((0:Z),()))),())
def B2:gO->bv gO:=λ(a,_)=>(uu (a.2.1,())).bind λ(b,_)=>(lY (a.1,b,())).bind λ(c,_)=>Y (c,())
def pV:gO->bv cJ:=λ(a,_)=>(iD (a.2.1,())).bind λ(b,_)=>(bw (ak b==0) (Y (0,())) (bw a.1 (Y ((-1:Z),())) (Y (1,()))))
def y0:gO->bv cJ:=λ(b,_)=>(loop (σ:=cJ) (ρ:=np) (λ(a,_)=>bw (br (a<ak b.2.1)) ((al b.2.1 a).bind λc=>bw (c !=0) ((wL (c,())).bind λ(aE,_)=>Y (.inr (.inr (ay (ay (a*32)+aE),())))) (Y (.inl (aP a,())))) (Y (.inr (.inl ())))) (0,())).bind λd=>match d with
 |.inl _=>(Y (0,()))
 |.inr e=>Y e
def y3:ht->bv cJ:=λ(a,_)=>(bw (ak a==0) (Y (0,())) ((al a (ay (ak a-1))).bind λc=>(wK (c,())).bind λ(b,_)=>Y (ay (ay (ay (ak a-1)*32)+b),())))
def sk:gO->bv cJ:=λ(a,_)=>(iD (a.2.1,())).bind λ(b,_)=>(y3 (b,())).bind λ(c,_)=>Y (c,())
def wH:nq->bv ht:=λ(b,e,_)=>(bw (ak b==0) (Y ([],())) ((km bK e 32).bind λc=>(i4 e 32).bind λj=>(fX (aP (ay (c+ak b))) (aP (ay (c+ak b)))).bind λg=>(loop (σ:=iO) (ρ:=ht) (λ(a,d,_)=>bw (br (a<ak b)) ((al b a).bind λk=>(h6 bC (aJ k) (aJ j)).bind λf=>rd d (ay (c+a)) λl=>wr d (ay (c+a)) (fN cb l (db (ey bC f 4294967295))) λn=>(eM bC f 32).bind λm=>wr n (aP (ay (c+a))) (db m) λo=>Y (.inl (aP a,o,()))) (Y (.inr (d,())))) (0,bJ g (0:Z),())).bind λ(h,_)=>(iD (h,())).bind λ(i,_)=>Y (i,())))
def Gk:cJ->bv hK:=λ(a,_)=>Y ((a !=0),())
def Gx:(bi×bt×bt)->bv cJ:=λ(b,_,_)=>(loop (σ:=cJ) (ρ:=np) (λ(a,_)=>bw (br (a<ak b)) ((al b a).bind λf=>(Gk (f,())).bind λ(e,_)=>bw e (Y (.inr (.inr (a,())))) (Y (.inl (aP a,())))) (Y (.inr (.inl ())))) (0,())).bind λc=>match c with
 |.inl _=>(Y ((-1:Z),()))
 |.inr d=>Y d
def za:(bi×bt×bt)->bv hK:=λ(b,_,_)=>(Gx (b,(),())).bind λ(a,_)=>Y (br (a>=0),())
def y2:nq->bv (bi×bA×bt):=λ(a,h,_)=>(km bK h 32).bind λb=>(i4 h 32).bind λj=>(bif br (b>=ak a) then Y ([],br (ak a>0),()) else bB (α:=hK) (((Y (0)).bind λe=>(gy b).bind λf=>(hb e f a.length).map λ_=>(e,f)).bind λi=>(za (((a.take i.2).drop i.1),(),())).bind λ(p,_)=>bw (p==bq) ((al a b).bind λs=>(h6 cb 1 (aJ j)).bind λt=>Y ((ey cb s (db (t-1))!=0),())) (Y (bp,()))) λ(l,_)=>(fX (ay (ak a-b)) (ay (ak a-b))).bind λg=>(loop (σ:=iO) (ρ:=ht) (λ(c,d,_)=>bif br (c<ak (bJ g (0:Z))) then bB (α:=ht) ((al a (ay (b+c))).bind λk=>bB (α:=iO) (bw (br (aP (ay (b+c))<ak a)) ((al a (aP (ay (b+c)))).bind λu=>(h6 bC (aJ u) 32).bind λv=>Y (fN bC (aJ k) v,d,())) (Y (aJ k,d,()))) λ(r,m,_)=>
 (eM bC r (aJ j)).bind λw=>wr m c (db (ey bC w 4294967295)) λx=>Y (x,())) λ(n,_)=>Y (.inl (aP c,n,())) else Y (.inr (d,()))) (0,bJ g (0:Z),())).bind λ(o,_)=>(iD (o,())).bind λ(q,_)=>Y (q,l,()))
def wG:ka->bv ht:=λ(b,d,_)=>bB (α:=ka) (bw (br (ak b<ak d)) (Y (d,b,())) (Y (b,d,()))) λ(c,h,_)=>(fX 0 (aP (ak c))).bind λn=>(loop (σ:=pL) (ρ:=iO) (λ(e,a,f,_)=>bw (br (a<ak c)) (bB (α:=iO) ((al c a).bind λl=>bB (α:=iO) (bw (br (a<ak h)) ((al h a).bind λq=>Y (aJ (aJ (aJ l+e)+aJ q),f,())) (Y (aJ (aJ l+e),f,()))) λ(g,j,_)=>(cG (j.length+([db (ey bC g 4294967295)]).length)).bind λ_=>(eM bC g 32).bind λr=>Y (r,(j++[db (ey bC g 4294967295)]),())) λ(m,o,_)=>Y (.inl (m,aP a,o,()))) (Y (.inr (e,f,())))) (0,0,bJ n (0:Z),())).bind λ(i,k,_)=>(cG (k.length+([db i]).length)).bind λ_=>(iD ((k++[db i]),())).bind λ(p,_)=>Y (p,())
def qX:pM->bv pM:=λ(b,a,_)=>bB (α:=gO⊕pM) (bB (α:=(bA×eX×bt)) (bw (br (a<(-1048576:Z))==bq) (Y (br (a>1048576),(bq,([],())),())) (Y (bp,(bq,([],())),()))) λ(p,q,_)=>bw p (Y (.inr ((bq,(([]:bi),())),3,()))) (Y (.inl (q,())))) λh=>match h with
 |.inl (f,_)=>((iD (b.2.1,())).bind λ(c,_)=>bw (br (a>=0)) ((wH (c,a,())).bind λ(m,_)=>(lY (b.1,m,())).bind λ(n,_)=>Y (n,0,())) ((y2 (c,ay (0-a),())).bind λ(d,j,_)=>bB (α:=(bi×eX×bt)) (bB (α:=(bA×eX×bt)) (bw (b.1==bp) (Y (j,f,())) (Y (bq,f,()))) λ(o,e,_)=>bw o ((wG (d,[1],())).bind λ(k,_)=>Y (k,e,())) (Y (d,e,()))) λ(g,_,_)=>(lY (b.1,g,())).bind λ(l,_)=>Y (l,0,())))
 |.inr i=>Y i
def yR:pM->bv gO:=λ(d,f,_)=>(loop (σ:=(Z×eX×eX×bt)) (ρ:=(Z×eX×eX×bt)) (λ(a,b,c,_)=>bw (br (a>1048576)) ((qX (b,(-1048576:Z),())).bind λ(i,_,_)=>Y (.inl (ay (a-1048576),i,c,()))) (Y (.inr (a,b,c,())))) (f,d,(bq,([],())),())).bind λ(g,e,_,_)=>(qX (e,ay (0-g),())).bind λ(h,_,_)=>Y (h,())
def pU:hh->bv (fL×bA×bt):=λ(a,_)=>(bif a.1 then(yQ ()).bind λ(j,_)=>Y (j,bq,()) else(B2 (a.2.1,())).bind λ(b,_)=>(pV (b,())).bind λ(aE,_)=>bif aE==0 then Y ((bq,((bq,([],())),((0:Z),()))),bp,()) else((y0 (b,())).bind λ(c,_)=>bB (α:=(fL×eX×bt)⊕(fL×bA×bt)) (bB (α:=(bA×fL×eX×bt)) ((sk (b,())).bind λ(k,_)=>bw (br (a.2.2.1>ay (65536-k))==bq) (Y (br (a.2.2.1<ay ((-65536:Z)-c)),(bq,((bq,([],())),((0:Z),()))),b,())) (Y (bp,(bq,((bq,([],())),((0:Z),()))),b,()))) λ(l,m,e,_)=>bw l ((yQ ()).bind λ(h,_)=>Y (.inr (h,bq,()))) (Y (.inl (m,e,())))) λf=>match f with
 |.inl (_,d,_)=>((yR (d,c,())).bind λ(i,_)=>Y ((bq,(i,(ay (a.2.2.1+c),()))),bp,()))
 |.inr g=>Y g))
def uh:pM->bv hh:=λ(b,a,_)=>(pU ((bq,(b,(a,()))),())).bind λ(c,_,_)=>Y (c,())
def j2:cJ->bv hh:=λ(b,_)=>(wC (b,())).bind λ(a,c,_)=>bB (α:=(Z×Z×fL×bt)⊕hh) (bw (a==2047) (Y (.inr ((bp,((bq,([],())),((0:Z),()))),()))) (bw (a==0) (Y (.inl ((-1074:Z),c,(bq,((bq,([],())),((0:Z),()))),()))) (Y (.inl (ay (a-1075),fN bC c 4503599627370496,(bq,((bq,([],())),((0:Z),()))),()))))) λi=>match i with
 |.inl (f,g,e,_)=>((um (ay g,())).bind λ(d,_)=>bB (α:=(fL×eX×bt)) ((BR (b,())).bind λ(l,_)=>bw l ((sl (d,())).bind λ(m,_)=>Y (e,m,())) (Y (e,d,()))) λ(_,h,_)=>(uh (h,f,())).bind λ(k,_)=>Y (k,()))
 |.inr j=>Y j
def wA:lq->bv (fL×fL×bA×bt):=λ(c,d,_)=>(pU (c,())).bind λ(a,aE,_)=>(pU (d,())).bind λ(b,e,_)=>(bw (aE==bp) (Y (a,b,e,())) (Y (a,b,bq,())))
def B6:ka->bv ht:=λ(c,a,_)=>bB (α:=bt⊕ht) (bw ((ak c==0)==bq) (bw (ak a==0) (Y (.inr ([],()))) (Y (.inl ()))) (Y (.inr ([],())))) λo=>match o with
 |.inl _=>((fX (ay (ak c+ak a)) (ay (ak c+ak a))).bind λl=>(loop (σ:=iO) (ρ:=ht) (λ(b,g,_)=>bw (br (b<ak c)) ((al c b).bind λh=>(loop (σ:=pL) (ρ:=iO) (λ(e,d,f,_)=>bw (br (d<ak a)) ((al a d).bind λi=>rd f (ay (b+d)) λj=>wr f (ay (b+d)) (db (ey bC (aJ (aJ (aJ (aJ h*aJ i)+aJ j)+e)) 4294967295)) λs=>(eM bC (aJ (aJ (aJ (aJ h*aJ i)+aJ j)+e)) 32).bind λr=>Y (.inl (r,aP d,s,()))) (Y (.inr (e,f,())))) (0,0,g,())).bind λ(k,m,_)=>wr m (ay (b+ak a)) (db k) λt=>Y (.inl (aP b,t,()))) (Y (.inr (g,())))) (0,bJ l (0:Z),())).bind λ(n,_)=>(iD (n,())).bind λ(q,_)=>Y (q,()))
 |.inr p=>Y p
def B1:lr->bv gO:=λ(a,b,_)=>(iD (a.2.1,())).bind λ(c,_)=>(iD (b.2.1,())).bind λ(aE,_)=>(B6 (c,aE,())).bind λ(d,_)=>(lY ((!(a.1==b.1)),d,())).bind λ(e,_)=>Y (e,())
def ny:lq->bv hh:=λ(b,c,_)=>(wA (b,c,())).bind λ(a,aE,d,_)=>(bw (!d) ((yQ ()).bind λ(e,_)=>Y (e,())) ((B1 (a.2.1,aE.2.1,())).bind λ(f,_)=>(uh (f,ay (a.2.2.1+aE.2.2.1),())).bind λ(g,_)=>Y (g,())))
def BK:hh->bv hh:=λ(b,_)=>(pU (b,())).bind λ(a,d,_)=>bB (α:=lq) (bw d ((sl (a.2.1,())).bind λ(aE,_)=>Y ((a.1,(aE,a.2.2)),(bq,((bq,([],())),((0:Z),()))),())) (Y (a,(bq,((bq,([],())),((0:Z),()))),()))) λ(c,_,_)=>Y (c,())
def o1:pM->bv gO:=λ(a,b,_)=>(qX (a,b,())).bind λ(c,_,_)=>Y (c,())
def BJ:cJ->bv hK:=λ(a,_)=>Y ((a !=a),())
def BH:nr->bv cJ:=λ(a,b,_)=>(BJ (a,())).bind λ(c,_)=>(BJ (b,())).bind λ(aE,_)=>(bw c (bw aE (Y (0,())) (Y ((-1:Z),()))) (bw aE (Y (1,())) (bw (br (a<b)) (Y ((-1:Z),())) (bw (br (a>b)) (Y (1,())) (Y (0,()))))))
def wE:ka->bv cJ:=λ(b,c,_)=>(bif ak b !=ak c then(uf (ak b,ak c,())).bind λ(f,_)=>Y (f,()) else((loop (σ:=cJ) (ρ:=np) (λ(a,_)=>bw (br (a>=0)) ((al b a).bind λh=>(al c a).bind λi=>bw (h !=i) ((al b a).bind λj=>(al c a).bind λk=>(BH (j,k,())).bind λ(g,_)=>Y (.inr (.inr (g,())))) (Y (.inl (ay (a-1),())))) (Y (.inr (.inl ())))) (ay (ak b-1),())).bind λd=>match d with
 |.inl _=>(Y (0,()))
 |.inr e=>Y e))
def wF:ka->bv ht:=λ(b,d,_)=>(fX (ak b) (ak b)).bind λi=>(loop (σ:=pL) (ρ:=ht) (λ(e,a,c,_)=>bw (br (a<ak b)) (bB (α:=iO) ((al b a).bind λg=>bB (α:=iO) (bw (br (a<ak d)) ((al d a).bind λn=>Y (aJ (aJ (aJ g-e)-aJ n),c,())) (Y (aJ (aJ g-e),c,()))) λ(f,j,_)=>wr j a (db (ey bC f 4294967295)) λp=>(eM bC f 32).bind λo=>Y (ey bC o 1,p,())) λ(h,k,_)=>Y (.inl (h,aP a,k,()))) (Y (.inr (c,())))) (0,0,bJ i (0:Z),())).bind λ(l,_)=>(iD (l,())).bind λ(m,_)=>Y (m,())
def uk:lr->bv gO:=λ(a,c,_)=>(iD (a.2.1,())).bind λ(b,_)=>(iD (c.2.1,())).bind λ(aE,_)=>(bw (a.1==c.1) ((wG (b,aE,())).bind λ(f,_)=>(lY (a.1,f,())).bind λ(g,_)=>Y (g,())) ((wE (b,aE,())).bind λ(h,_)=>bw (br (h>=0)) ((wF (b,aE,())).bind λ(i,_)=>(lY (a.1,i,())).bind λ(j,_)=>Y (j,())) ((wF (aE,b,())).bind λ(d,_)=>(lY (c.1,d,())).bind λ(e,_)=>Y (e,()))))
def mX:hh->bv cJ:=λ(a,_)=>(pU (a,())).bind λ(b,_,_)=>(pV (b.2.1,())).bind λ(aE,_)=>Y (aE,())
def wy:hh->bv hh:=λ(a,_)=>(pU (a,())).bind λ(b,_,_)=>Y (b,())
def B5:nq->bv nq:=λ(a,c,_)=>(fX (ak a) (ak a)).bind λh=>(loop (σ:=pL) (ρ:=iO) (λ(e,b,d,_)=>bw (br (b>=0)) ((h6 bC e 32).bind λf=>(al a b).bind λg=>(km bC (fN bC f (aJ g)) (aJ c)).bind λl=>wr d b (db l) λn=>(i4 (fN bC f (aJ g)) (aJ c)).bind λm=>Y (.inl (m,ay (b-1),n,()))) (Y (.inr (e,d,())))) (0,ay (ak a-1),bJ h (0:Z),())).bind λ(k,i,_)=>(iD (i,())).bind λ(j,_)=>Y (j,db k,())
def ur:cJ->bv cJ:=λ(b,_)=>(wK (b,())).bind λ(a,_)=>Y (ay (32-a),())
def y1:((bi×X×X)×bi×bt)->bv nq:=λ(b,a,_)=>(bj (b.2.2-b.2.1) (ak a)).bind λV=>(bb b.1 (b.2.1+V) λP=>Y P).bind λdl=>(h6 bC (aJ dl) 32).bind λI=>(bj (b.2.2-b.2.1) (ay (ak a-1))).bind λav=>(bb b.1 (b.2.1+av) λT=>Y T).bind λK=>(al a (ay (ak a-1))).bind λbs=>(km bC (fN bC I (aJ K)) (aJ bs)).bind λbx=>(al a (ay (ak a-1))).bind λce=>(i4 (fN bC I (aJ K)) (aJ ce)).bind λci=>(loop (σ:=(ep×Z×Z×bi×bt)) (ρ:=(ep×Z×bi×bt)) (λ(g,h,r,m,_)=>bB (α:=(ep×bi×bt)⊕((ep×Z×Z×bi×bt)⊕(ep×Z×bi×bt))) (bif br (h>4294967295)==bq then(al a (ay (ak a-2))).bind λco=>(h6 bC r 32).bind λcs=>(bj (g.2-g.1) (ay (ak a-2))).bind λU=>(bb m (g.1+U) λN=>Y N).bind λcv=>bif br (aJ (h*aJ co)>fN bC cs (aJ cv)) then
 Y (.inl (g,m,())) else Y (.inr (.inr (g,h,m,()))) else Y (.inl (g,m,()))) λa0=>match a0 with
 |.inl (C,D,_)=>((al a (ay (ak a-1))).bind λE=>bw (br (aJ (r+aJ E)>4294967295)) (Y (.inr (C,aJ (h-1),D,()))) (Y (.inl (C,aJ (h-1),aJ (r+aJ E),D,()))))
 |.inr a3=>Y a3) (b.2,bx,ci,b.1,())).bind λ(a4,i,bl,_)=>(loop (σ:=(ep×Z×Z×Z×bi×bt)) (ρ:=(ep×Z×Z×bi×bt)) (λ(e,l,p,j,n,_)=>bw (br (j<ak a)) ((al a j).bind λu=>(eM bC (aJ (aJ (i*aJ u)+l)) 32).bind λc1=>(bj (e.2-e.1) j).bind λad=>(bb n (e.1+ad) λO=>Y O).bind λF=>(bj (e.2-e.1) j).bind λy=>(bb n (e.1+y) λ_=>Y (n.set (e.1+y) (db (ey bC (aJ (aJ (aJ F-ey bC (aJ (aJ (i*aJ u)+l)) 4294967295)-p)) 4294967295)))).bind λd2=>(eM bC (aJ (aJ (aJ F-ey bC (aJ (aJ (i*aJ u)+l)) 4294967295)-p)) 32).bind λc2=>Y (.inl (e,c1,ey bC c2 1,aP j,d2,()))) (Y (.inr (e,l,p,n,())))) (a4,0,0,0,bl,())).bind λ(c,x,w,s,_)=>(bj (c.2-c.1) (ak a)).bind λam=>(bb s (c.1+am) λQ=>Y Q).bind λG=>
 (bj (c.2-c.1) (ak a)).bind λz=>(bb s (c.1+z) λ_=>Y (s.set (c.1+z) (db (ey bC (aJ (aJ (aJ G-x)-w)) 4294967295)))).bind λv=>(eM bC (aJ (aJ (aJ G-x)-w)) 32).bind λds=>(bif ey bC ds 1==0 then bw (bI c.1 b.2.1&&(bI c.2 b.2.2&&(bI v.length ((b.1).length)&&ca c.1 c.2))) (Y (v,db i,())) bo else(loop (σ:=(ep×Z×Z×bi×bt)) (ρ:=(ep×Z×bi×bt)) (λ(f,q,k,o,_)=>bw (br (k<ak a)) ((al a k).bind λH=>(bj (f.2-f.1) k).bind λan=>(bb o (f.1+an) λR=>Y R).bind λJ=>(bj (f.2-f.1) k).bind λA=>(bb o (f.1+A) λ_=>Y (o.set (f.1+A) (db (ey bC (aJ (aJ (aJ J+aJ H)+q)) 4294967295)))).bind λd3=>(eM bC (aJ (aJ (aJ J+aJ H)+q)) 32).bind λd0=>Y (.inl (f,d0,aP k,d3,()))) (Y (.inr (f,q,o,())))) (c,0,0,v,())).bind λ(d,M,t,_)=>
 (bj (d.2-d.1) (ak a)).bind λap=>(bb t (d.1+ap) λS=>Y S).bind λd1=>(bj (d.2-d.1) (ak a)).bind λB=>(bb t (d.1+B) λ_=>Y (t.set (d.1+B) (db (d1+db M)))).bind λL=>bw (bI d.1 b.2.1&&(bI d.2 b.2.2&&(bI L.length ((b.1).length)&&ca d.1 d.2))) (Y (L,db (aJ (i-1)),())) bo)
def B4:ka->bv ka:=λ(a,b,_)=>(wE (a,b,())).bind λ(t,_)=>(bif br (t<0) then(uu (a,())).bind λ(u,_)=>Y ([],u,()) else bif ak b==1 then(al b 0).bind λC=>(B5 (a,C,())).bind λ(v,w,_)=>(iD ([w],())).bind λ(x,_)=>Y (v,x,()) else(al b (ay (ak b-1))).bind λD=>(ur (D,())).bind λ(h,_)=>(wH (b,h,())).bind λ(e,_)=>(fX (aP (ak a)) (aP (ak a))).bind λc=>(wH (a,h,())).bind λ(i,_)=>(fX (ay (ak (jt (bJ c (0:Z)) i 0 (bJ c (0:Z)).length)-ak e)) (ay (ak (jt (bJ c (0:Z)) i 0 (bJ c (0:Z)).length)-ak e))).bind λn=>(loop (σ:=(Z×bi×bi×bt)) (ρ:=ka) (λ(d,p,g,_)=>bif br (d>=0) then((gy d).bind λj=>(gy (aP (ay (d+ak e)))).bind λk=>(hb j k g.length).bind λ_=>(nL g.length).map λ_=>(j,k)).bind λf=>
 bw (ca f.1 f.2) ((y1 ((g,f.1,f.2),e,())).bind λ(r,y,_)=>wr p d y λE=>Y (.inl (ay (d-1),E,r,()))) bo else Y (.inr (p,g,()))) (ay (ak (bJ n (0:Z))-1),bJ n (0:Z),jt (bJ c (0:Z)) i 0 (bJ c (0:Z)).length,())).bind λ(s,q,_)=>((Y (0)).bind λl=>(gy (ak e)).bind λm=>(hb l m q.length).map λ_=>(l,m)).bind λo=>(iD (((q.take o.2).drop o.1),())).bind λ(z,_)=>(y2 (z,h,())).bind λ(A,_,_)=>(iD (s,())).bind λ(B,_)=>Y (B,A,()))
def yZ:lr->bv cJ:=λ(b,c,_)=>(pV (b,())).bind λ(a,_)=>(pV (c,())).bind λ(aE,_)=>(bw (br (a<aE)) (Y ((-1:Z),())) (bw (br (a>aE)) (Y (1,())) ((iD (b.2.1,())).bind λ(d,_)=>(iD (c.2.1,())).bind λ(e,_)=>(wE (d,e,())).bind λ(f,_)=>Y (ay (a*f),()))))
def BM:(wb×bt)->bv cJ:=λ(a,_)=>(sk (a.2.1,())).bind λ(b,_)=>Y (ay (ay (a.2.2.1+b)-1),())
def B3:lr->bv gO:=λ(b,a,_)=>(uk (b,((!a.1),a.2),())).bind λ(c,_)=>Y (c,())
def yO:(wb×Z×bt)->bv (eX×Z×bA×bt):=λ(a,b,_)=>(sk (a.2.1,())).bind λ(h,_)=>(bw (br (b>h)) (Y ((bq,(([]:bi),())),(-1:Z),bq,())) ((yR (a.2.1,b,())).bind λ(aE,_)=>(o1 (aE,b,())).bind λ(i,_)=>(B3 (a.2.1,i,())).bind λ(c,_)=>(um (1,())).bind λ(j,_)=>(o1 (j,ay (b-1),())).bind λ(k,_)=>(yZ (c,k,())).bind λ(d,_)=>bB (α:=(Z×eX×eX×bt)) (bw ((d==0)==bp) (bw a.2.2.2.1 (Y (1,aE,c,())) (Y (d,aE,c,()))) (Y (d,aE,c,()))) λ(e,f,l,_)=>(pV (l,())).bind λ(g,_)=>bw ((g==0)==bp) (Y (f,e,(!a.2.2.2.1),())) (Y (f,e,bq,()))))
def BN:(wb×Z×Z×bt)->bv gO:=λ(c,e,d,_)=>bB (α:=(Z×bA×eX×eX×bt)) (bw (br (e<=c.2.2.1)) ((o1 (c.2.1,ay (c.2.2.1-e),())).bind λ(aE,_)=>Y ((-1:Z),bp,(bq,([],())),aE,())) ((yO (c,ay (e-c.2.2.1),())).bind λ(s,t,u,_)=>Y (t,u,(bq,([],())),s,()))) λ(f,l,b,a,_)=>bB (α:=(bA×eX×eX×bt)) (bw l (Y (bq,b,a,())) (bw (d==1) (Y (c.1,b,a,())) (bw (d==2) (Y ((!c.1),b,a,())) (bw (d==3) (Y (bq,b,a,())) (bw (br (f>0)==bq) (bw ((f==0)==bp) ((pV (a,())).bind λ(n,_)=>bw ((n !=0)==bp) ((y0 (a,())).bind λ(o,_)=>Y ((o==0),b,a,())) (Y (bq,b,a,()))) (Y (bq,b,a,()))) (Y (bp,b,a,()))))))) λ(k,i,g,_)=>bB (α:=lr) (bw k ((um (1,())).bind λ(p,_)=>(uk (g,p,())).bind λ(q,_)=>Y (i,q,())) (Y (i,g,()))) λ(j,h,_)=>bB (α:=lr) (bw c.1 ((sl (h,())).bind λ(r,_)=>Y (j,r,())) (Y (j,h,()))) λ(_,m,_)=>Y (m,())
def uj:gO->bv gO:=λ(a,_)=>(uu (a.2.1,())).bind λ(b,_)=>(lY (bq,b,())).bind λ(c,_)=>Y (c,())
def B0:gO->bv eg:=λ(c,_)=>(iD (c.2.1,())).bind λ(d,_)=>(bif br (ak d>2) then Y (0,bq,()) else((loop (σ:=nr) (ρ:=cJ) (λ(e,b,_)=>bw (br (b<ak d)) ((al d b).bind λj=>(h6 bC (aJ j) (ay (32*b))).bind λk=>Y (.inl (fN bC e k,aP b,()))) (Y (.inr (e,())))) (0,0,())).bind λ(a,_)=>bB (α:=bt⊕eg) (bB (α:=hK) (bw (c.1==bp) (bw (br (a>0)==bp) (Y (br (a<=9223372036854775808),())) (Y (bq,()))) (Y (bq,()))) λ(h,_)=>bw h (Y (.inr (ay (ay (0-ay (aJ (a-1)))-1),bp,()))) (bB (α:=hK) (bw (br (a<9223372036854775808)==bp) (bw ((!c.1)==bq) (Y ((a==0),())) (Y (bp,()))) (Y (bq,()))) λ(i,_)=>bw i (Y (.inr (ay a,bp,()))) (Y (.inl ())))) λf=>match f with
 |.inl _=>(Y (0,bq,()))
 |.inr g=>Y g))
def ui:eg->bv cJ:=λ(a,b,_)=>(bw b (Y (fN bC a 9223372036854775808,())) (Y (a,())))
def BS:ei->bv cJ:=λ(a,b,_)=>bB (α:=bt⊕cJ) (bB (α:=hK) (bw ((b==3)==bq) (bw ((b==1)==bp) (bw ((!a)==bq) (bw ((b==2)==bp) (Y (a,())) (Y (bq,()))) (Y (bp,()))) (bw ((b==2)==bp) (Y (a,())) (Y (bq,())))) (Y (bp,()))) λ(f,_)=>bw f ((ui (9218868437227405311,a,())).bind λ(aE,_)=>Y (.inr (aE,()))) (Y (.inl ()))) λc=>match c with
 |.inl _=>((ui (9218868437227405312,a,())).bind λ(e,_)=>Y (e,()))
 |.inr d=>Y d
def yS:(wb×Z×bt)->bv cJ:=λ(b,d,_)=>(BM (b,())).bind λ(a,_)=>(BN (b,(if(-1074:Z)>ay (a-52) then(-1074:Z) else ay (a-52)),d,())).bind λ(aE,_)=>(uj (aE,())).bind λ(j,_)=>(B0 (j,())).bind λ(f,_,_)=>bB (α:=nr) (bw (aJ f==9007199254740992) (Y (aP (if(-1074:Z)>ay (a-52) then(-1074:Z) else ay (a-52)),4503599627370496,())) (Y ((if(-1074:Z)>ay (a-52) then(-1074:Z) else ay (a-52)),aJ f,()))) λ(e,c,_)=>(bw (br (c<4503599627370496)) ((ui (c,b.1,())).bind λ(g,_)=>Y (g,())) (bw (br (ay (e+1075)>=2047)) ((BS (b.1,d,())).bind λ(h,_)=>Y (h,())) ((h6 bC (aJ (ay (e+1075))) 52).bind λk=>(ui (fN bC k (aJ (c-4503599627370496)),b.1,())).bind λ(i,_)=>Y (i,()))))
def BO:cJ->bv cJ:=λ(c,_)=>(wC (c,())).bind λ(a,b,_)=>bB (α:=hK) (bw ((a==2047)==bp) (Y ((b !=0),())) (Y (bq,()))) λ(d,_)=>(bw d (Y (3,())) (bw (a==2047) (Y (2,())) (bw ((a==0)==bp) (bw (b==0) (Y (0,())) (Y (1,()))) (Y (1,())))))
def BZ:lr->bv (eX×eX×Z×bt):=λ(a,d,_)=>(iD (d.2.1,())).bind λ(b,_)=>(bw (ak b==0) (Y ((bq,(([]:bi),())),(bq,(([]:bi),())),8,())) ((iD (a.2.1,())).bind λ(aE,_)=>(B4 (aE,b,())).bind λ(f,c,_)=>bB (α:=(bi×bi×eX×eX×bt)) (bB (α:=(bA×eX×eX×bt)) (bw (a.1==bp) (Y (br (ak c>0),(bq,([],())),(bq,([],())),())) (Y (bq,(bq,([],())),(bq,([],())),()))) λ(n,e,g,_)=>bw n ((wG (f,[1],())).bind λ(j,_)=>(wF (b,c,())).bind λ(k,_)=>Y (j,k,e,g,())) (Y (f,c,e,g,()))) λ(h,i,_,_,_)=>(lY ((!(a.1==d.1)),h,())).bind λ(l,_)=>(lY (bq,i,())).bind λ(m,_)=>Y (l,m,0,())))
def BL:(fL×fL×Z×bt)->bv (wb×bt):=λ(a,b,c,_)=>(sk (b.2.1,())).bind λ(aE,_)=>(sk (a.2.1,())).bind λ(d,_)=>(uj (a.2.1,())).bind λ(g,_)=>(o1 (g,(if(ay (ay (ay (c+3)+aE)-d))>0 then ay (ay (ay (c+3)+aE)-d) else 0),())).bind λ(h,_)=>(uj (b.2.1,())).bind λ(i,_)=>(BZ (h,i,())).bind λ(j,e,_,_)=>(pV (e,())).bind λ(f,_)=>Y (((!(a.2.1.1==b.2.1.1)),(j,(ay (ay (a.2.2.1-(if(ay (ay (ay (c+3)+aE)-d))>0 then ay (ay (ay (c+3)+aE)-d) else 0))-b.2.2.1),((f !=0),())))),())
def sj:(fL×fL×Z×bt)->bv cJ:=λ(c,f,h,_)=>(wy (c,())).bind λ(aE,_)=>(wy (f,())).bind λ(a,_)=>bB (α:=lq⊕cJ) (bB (α:=(bA×fL×fL×bt)) (bw (aE.1==bq) (bw (a.1==bq) ((mX (a,())).bind λ(n,_)=>Y ((n==0),aE,a,())) (Y (bp,aE,a,()))) (Y (bp,aE,a,()))) λ(o,b,g,_)=>bw o (Y (.inr (9221120237041090560,()))) ((mX (b,())).bind λ(k,_)=>bw (k==0) (Y (.inr (0,()))) (Y (.inl (b,g,()))))) λi=>match i with
 |.inl (d,e,_)=>((BL (d,e,56,())).bind λ(l,_)=>(yS (l,h,())).bind λ(m,_)=>Y (m,()))
 |.inr j=>Y j
def pY:cJ->bv hK:=λ(a,_)=>(eM bC a 52).bind λb=>Y ((ey bC b 2047 !=2047),())
def CW:cJ->bv hK:=λ(a,_)=>Y ((ey bC a 9223372036854775808 !=0),())
def j3:cJ->bv hh:=λ(a,_)=>(pY (a,())).bind λ(f,_)=>(bw (!f) ((uy ()).bind λ(g,_)=>Y (g,())) ((eM bC a 52).bind λc=>bB (α:=(Z×Z×fL×bt)) (bw (br (ay (ey bC c 2047)>0)) (Y (fN bC (ey bC a 4503599627370495) 4503599627370496,ay (ay (ey bC c 2047)-1075),(bq,((bq,([],())),((0:Z),()))),())) (Y (ey bC a 4503599627370495,(-1074:Z),(bq,((bq,([],())),((0:Z),()))),()))) λ(b,d,_,_)=>(CW (a,())).bind λ(h,_)=>(eM bC b 32).bind λi=>(o3 ((h,([db b,db i],())),d,())).bind λ(e,_)=>Y (e,())))
def GJ:hh->bv hh:=λ(b,_)=>(mr (b,())).bind λ(a,_)=>(bw a.1 (Y (a,())) ((qY (a.2.1,())).bind λ(c,_)=>(o3 (c,a.2.2.1,())).bind λ(aE,_)=>Y (aE,())))
def GI:ka->bv ht:=λ(d,b,_)=>(fX (ay (ak d+ak b)) (ay (ak d+ak b))).bind λl=>(loop (σ:=iO) (ρ:=ht) (λ(a,g,_)=>bw (br (a<ak d)) ((loop (σ:=pL) (ρ:=iO) (λ(e,c,f,_)=>bw (br (c<ak b)) ((al d a).bind λj=>(al b c).bind λh=>rd f (ay (a+c)) λi=>wr f (ay (a+c)) (db (aJ (aJ (e+aJ (aJ j*aJ h))+aJ i))) λp=>(eM bC (aJ (aJ (e+aJ (aJ j*aJ h))+aJ i)) 32).bind λo=>Y (.inl (o,aP c,p,()))) (Y (.inr (e,f,())))) (0,0,g,())).bind λ(k,m,_)=>wr m (ay (a+ak b)) (db k) λq=>Y (.inl (aP a,q,()))) (Y (.inr (g,())))) (0,bJ l (0:Z),())).bind λ(n,_)=>Y (n,())
def GG:lr->bv gO:=λ(a,b,_)=>(mq (a.2.1,())).bind λ(c,_)=>(mq (b.2.1,())).bind λ(aE,_)=>(GI (c,aE,())).bind λ(d,_)=>(lZ ((!(a.1==b.1)),d,())).bind λ(e,_)=>Y (e,())
def kD:lq->bv hh:=λ(d,f,_)=>(mr (d,())).bind λ(a,_)=>(mr (f,())).bind λ(aE,_)=>bB (α:=(fL×fL×fL×bt)⊕hh) (bB (α:=(bA×fL×fL×fL×bt)) (bw (a.1==bq) (Y (aE.1,a,aE,(bq,((bq,([],())),((0:Z),()))),())) (Y (bp,a,aE,(bq,((bq,([],())),((0:Z),()))),()))) λ(m,e,g,n,_)=>bw m ((uy ()).bind λ(l,_)=>Y (.inr (l,()))) (Y (.inl (e,g,n,())))) λh=>match h with
 |.inl (b,c,_,_)=>((GG (b.2.1,c.2.1,())).bind λ(j,_)=>(o3 (j,ay (b.2.2.1+c.2.2.1),())).bind λ(k,_)=>Y (k,()))
 |.inr i=>Y i
def CT:hh->bv hh:=λ(b,_)=>(mr (b,())).bind λ(a,_)=>(bw a.1 (Y (a,())) ((zi (a.2.1,())).bind λ(c,_)=>(o3 (c,a.2.2.1,())).bind λ(aE,_)=>Y (aE,())))
def CR:(bi×bi×Z×Z×bt)->bv (bi×bA×bt):=λ(w,b,i,r,_)=>(fX (aP (ak b)) (aP (ak b))).bind λs=>(loop (σ:=(Z×Z×Z×bi×bi×bt)) (ρ:=(Z×bi×bi×bt)) (λ(d,h,a,g,f,_)=>bw (br (a<=ak b)) (bB (α:=(Z×Z×bi×bi×bt)) (bB (α:=(Z×bi×bi×bt)) (bw (br (a<ak b)) ((al b a).bind λz=>Y (aJ (h+aJ (r*aJ z)),g,f,())) (Y (h,g,f,()))) λ(e,k,t,_)=>rd k (ay (a+i)) λn=>(eM bC e 32).bind λA=>wr t a (db (aJ (aJ (aJ n-d)-ey bC e 4294967295))) λD=>(eM bC (aJ (aJ (aJ n-d)-ey bC e 4294967295)) 63).bind λB=>Y (B,A,k,D,())) λ(o,q,x,u,_)=>Y (.inl (o,q,aP a,x,u,()))) (Y (.inr (d,g,f,())))) (0,0,0,w,bJ s (0:Z),())).bind λ(p,l,v,_)=>
 (bw (p !=0) (Y (l,bq,())) ((loop (σ:=(Z×bi×bi×bt)) (ρ:=ht) (λ(c,m,j,_)=>bw (br (c<=ak b)) (rd j c λC=>wr m (ay (c+i)) C λE=>Y (.inl (aP c,E,j,()))) (Y (.inr (m,())))) (0,l,v,())).bind λ(y,_)=>Y (y,bp,())))
def GH:ka->bv ka:=λ(b,a,_)=>(zj (b,a,())).bind λ(u,_)=>(bif br (u<0) then Y ([],b,()) else(al a (ay (ak a-1))).bind λE=>(ur (E,())).bind λ(i,_)=>(wQ (b,i,())).bind λ(e,_)=>(wQ (a,i,())).bind λ(f,_)=>((Y (0)).bind λj=>(gy (ak a)).bind λk=>(hb j k f.length).bind λ_=>(nL f.length).map λ_=>(j,k)).bind λd=>bB (α:=ka) (bw (ak e==ak b) ((cG (e.length+([0]).length)).bind λ_=>Y (((f.take d.2).drop d.1),(e++[0]),())) (Y (((f.take d.2).drop d.1),e,()))) λ(o,A,_)=>(fX (aP (ay (ak b-ak a))) (aP (ay (ak b-ak a)))).bind λr=>(loop (σ:=(Z×bi×bi×bt)) (ρ:=ka) (λ(c,g,m,_)=>bif br (c>=0) then rd g (ay (c+ak a)) λF=>(h6 bC (aJ F) 32).bind λG=>rd g (ay (ay (c+ak a)-1)) λH=>
 (al o (ay (ak a-1))).bind λI=>(km bC (fN bC G (aJ H)) (aJ I)).bind λp=>(loop (σ:=(Z×bi×bi×bt)) (ρ:=(Z×bi×bi×bt)) (λ(h,B,n,_)=>(CR (B,o,c,h,())).bind λ(l,v,_)=>bw (!v) (Y (.inl (aJ (h-1),l,n,()))) (Y (.inr (h,l,n,())))) ((if 4294967295<p then 4294967295 else p),g,m,())).bind λ(q,C,s,_)=>wr s c (db q) λJ=>Y (.inl (ay (c-1),C,J,())) else Y (.inr (g,m,()))) (ay (ak b-ak a),A,bJ r (0:Z),())).bind λ(D,t,_)=>(mq (D,())).bind λ(w,_)=>(wR (w,i,())).bind λ(x,_,_)=>(mq (t,())).bind λ(y,_)=>(mq (x,())).bind λ(z,_)=>Y (y,z,()))
def GF:lr->bv lr:=λ(e,f,_)=>(pX (e,())).bind λ(a,_)=>(pX (f,())).bind λ(aE,_)=>(GH (a.2.1,aE.2.1,())).bind λ(m,n,_)=>(lZ ((!(a.1==aE.1)),m,())).bind λ(b,_)=>(lZ (a.1,n,())).bind λ(c,_)=>bB (α:=(eX×eX×eX×eX×bt)) ((mY (c,())).bind λ(o,_)=>bw (br (o<0)) ((qY (aE,())).bind λ(h,_)=>(sq (c,h,())).bind λ(d,_)=>bw aE.1 ((sr (1,())).bind λ(i,_)=>(sq (b,i,())).bind λ(j,_)=>Y ((bq,([],())),(bq,([],())),j,d,())) ((sr (1,())).bind λ(k,_)=>(wP (b,k,())).bind λ(l,_)=>Y ((bq,([],())),(bq,([],())),l,d,()))) (Y ((bq,([],())),(bq,([],())),b,c,()))) λ(_,_,g,p,_)=>Y (g,p,())
def GD:lr->bv cJ:=λ(a,b,_)=>(wP (a,b,())).bind λ(c,_)=>(mY (c,())).bind λ(aE,_)=>Y (aE,())
def wT:hh->bv cJ:=λ(b,_)=>(mr (b,())).bind λ(a,_)=>(bw a.1 (Y (0,())) ((mY (a.2.1,())).bind λ(c,_)=>Y (c,())))
def GL:(eX×eX×Z×bt)->bv (eX×Z×bA×bt):=λ(c,d,a,_)=>(ux (d,())).bind λ(aE,_)=>(ux (c,())).bind λ(b,_)=>(n9 (c,(if 0>ay (ay (ay (a+2)+aE)-b) then 0 else ay (ay (ay (a+2)+aE)-b)),())).bind λ(e,_)=>(GF (e,d,())).bind λ(f,g,_)=>(mY (g,())).bind λ(h,_)=>Y (f,ay (0-(if 0>ay (ay (ay (a+2)+aE)-b) then 0 else ay (ay (ay (a+2)+aE)-b))),(h !=0),())
def GM:(fL×fL×Z×bt)->bv cJ:=λ(d,e,f,_)=>(mr (d,())).bind λ(aE,_)=>(mr (e,())).bind λ(c,_)=>bB (α:=lq⊕cJ) (bw (aE.1==bq) (bw (c.1==bq) ((mY (c.2.1,())).bind λ(o,_)=>bw (o==0) (Y (.inr (9221120237041090560,()))) (Y (.inl (aE,c,())))) (Y (.inr (9221120237041090560,())))) (Y (.inr (9221120237041090560,())))) λg=>match g with
 |.inl (a,b,_)=>((mY (a.2.1,())).bind λ(p,_)=>bw (p==0) (Y (0,())) ((qY (a.2.1,())).bind λ(i,_)=>(qY (b.2.1,())).bind λ(j,_)=>(GL (i,j,60,())).bind λ(k,l,m,_)=>(zn ((!(a.2.1.1==b.2.1.1)),k,ay (ay (a.2.2.1-b.2.2.1)+l),m,f,())).bind λ(n,_)=>Y (n,())))
 |.inr h=>Y h
def sv:lq->bv (eX×eX×Z×bt):=λ(a,b,_)=>(mY (a.2.1,())).bind λ(c,_)=>(bw (c==0) (Y (a.2.1,b.2.1,b.2.2.1,())) ((mY (b.2.1,())).bind λ(aE,_)=>bw (aE==0) (Y (a.2.1,b.2.1,a.2.2.1,())) (bw (br (a.2.2.1>b.2.2.1)) ((n9 (a.2.1,ay (a.2.2.1-b.2.2.1),())).bind λ(d,_)=>Y (d,b.2.1,b.2.2.1,())) ((n9 (b.2.1,ay (b.2.2.1-a.2.2.1),())).bind λ(e,_)=>Y (a.2.1,e,a.2.2.1,())))))
def ss:lq->bv hh:=λ(b,f,_)=>(mr (b,())).bind λ(a,_)=>(mr (f,())).bind λ(aE,_)=>bB (α:=(fL×fL×fL×bt)⊕hh) (bB (α:=(bA×fL×fL×fL×bt)) (bw (a.1==bq) (Y (aE.1,a,aE,(bq,((bq,([],())),((0:Z),()))),())) (Y (bp,a,aE,(bq,((bq,([],())),((0:Z),()))),()))) λ(p,d,g,q,_)=>bw p ((uy ()).bind λ(o,_)=>Y (.inr (o,()))) (Y (.inl (d,g,q,())))) λh=>match h with
 |.inl (c,e,_,_)=>((sv (c,e,())).bind λ(j,k,l,_)=>(sq (j,k,())).bind λ(m,_)=>(o3 (m,l,())).bind λ(n,_)=>Y (n,()))
 |.inr i=>Y i
def su:lq->bv hh:=λ(a,b,_)=>(CT (b,())).bind λ(c,_)=>(ss (a,c,())).bind λ(aE,_)=>Y (aE,())
def GK:lq->bv eg:=λ(b,e,_)=>(mr (b,())).bind λ(a,_)=>(mr (e,())).bind λ(aE,_)=>bB (α:=lq⊕eg) (bB (α:=(bA×fL×fL×bt)) (bw (a.1==bq) (Y (aE.1,a,aE,())) (Y (bp,a,aE,()))) λ(m,c,f,_)=>bw m (Y (.inr (0,bq,()))) (Y (.inl (c,f,())))) λh=>match h with
 |.inl (d,g,_)=>((sv (d,g,())).bind λ(j,k,_,_)=>(GD (j,k,())).bind λ(l,_)=>Y (l,bp,()))
 |.inr i=>Y i
def qW:cJ->bv hh:=λ(a,_)=>(um (a,())).bind λ(b,_)=>(uh (b,0,())).bind λ(c,_)=>Y (c,())
def yP:lq->bv (eX×eX×Z×bt):=λ(a,b,_)=>(o1 (a.2.1,ay (a.2.2.1-(if b.2.2.1<a.2.2.1 then b.2.2.1 else a.2.2.1)),())).bind λ(c,_)=>(o1 (b.2.1,ay (b.2.2.1-(if b.2.2.1<a.2.2.1 then b.2.2.1 else a.2.2.1)),())).bind λ(aE,_)=>Y (c,aE,(if b.2.2.1<a.2.2.1 then b.2.2.1 else a.2.2.1),())
def yM:lq->bv hh:=λ(a,b,_)=>(wA (a,b,())).bind λ(e,aE,f,_)=>(bw (!f) ((yQ ()).bind λ(g,_)=>Y (g,())) ((yP (e,aE,())).bind λ(h,i,j,_)=>(uk (h,i,())).bind λ(c,_)=>(uh (c,j,())).bind λ(d,_)=>Y (d,())))
def wz:lq->bv hh:=λ(a,b,_)=>(BK (b,())).bind λ(c,_)=>(yM (a,c,())).bind λ(aE,_)=>Y (aE,())
def yN:lq->bv eg:=λ(a,b,_)=>(wA (a,b,())).bind λ(c,aE,d,_)=>(bw (!d) (Y (0,bq,())) ((yP (c,aE,())).bind λ(e,f,_,_)=>(yZ (e,f,())).bind λ(g,_)=>Y (g,bp,())))
def Cw:(Z×Z×Z×bt)->bv hK:=λ(a,c,b,_)=>(bw (br (a>=c)==bp) (Y (br (a<=b),())) (Y (bq,())))
def CD:ht->bv hK:=λ(b,_)=>(loop (σ:=cJ) (ρ:=qO) (λ(a,_)=>bw (br (a>0)) ((al b a).bind λf=>(al b (ay (a-1))).bind λg=>(ug (f,g,())).bind λ(e,_)=>bw e (Y (.inr (.inr (bq,())))) (Y (.inl (ay (a-1),())))) (Y (.inr (.inl ())))) (ay (ak b-1),())).bind λc=>match c with
 |.inl _=>(Y (bp,()))
 |.inr d=>Y d
def Cu:n5->bv hK:=λ(a,_)=>bB (α:=bt⊕hK) (bw ((ak a.2.2.1 !=aP a.2.1)==bq) ((al a.2.2.1 0).bind λm=>bw ((m !=0)==bq) ((CD (a.2.2.1,())).bind λ(l,_)=>bw ((!l)==bq) ((al a.2.2.1 a.2.1).bind λn=>bw ((n !=ak a.2.2.2.1)==bq) (bw (ak a.2.2.2.1 !=ak a.2.2.2.2.1) (Y (.inr (bq,()))) (Y (.inl ()))) (Y (.inr (bq,())))) (Y (.inr (bq,())))) (Y (.inr (bq,())))) (Y (.inr (bq,())))) λb=>match b with
 |.inl _=>((loop (σ:=cJ) (ρ:=qO) (λ(e,_)=>bif br (e<a.2.1) then((al a.2.2.1 e).bind λo=>(al a.2.2.1 (aP e)).bind λp=>((gy o).bind λh=>(gy p).bind λi=>(hb h i (a.2.2.2.1).length).map λ_=>(h,i)).bind λd=>(loop (σ:=nr) (ρ:=(bt⊕(cJ⊕qO))) (λ(j,f,_)=>bif br (f<ak (((a.2.2.2.1).take d.2).drop d.1)) then(bB (α:=cJ⊕(nr⊕(bt⊕(cJ⊕qO)))) ((al (((a.2.2.2.1).take d.2).drop d.1) f).bind λg=>bB (α:=bt⊕(cJ⊕(nr⊕(bt⊕(cJ⊕qO))))) (bw (br (g<=j)==bq) (bw (br (g>=a.1)) (Y (.inr (.inr (.inr (.inr (.inr (.inr (bq,())))))))) (Y (.inl ()))) (Y (.inr (.inr (.inr (.inr (.inr (.inr (bq,()))))))))) λb=>match b with
 |.inl _=>(Y (.inl (g,())))
 |.inr c=>Y c) λb=>match b with
 |.inl (k,_)=>(Y (.inl (k,aP f,())))
 |.inr c=>Y c) else Y (.inr (.inl ()))) ((-1:Z),0,())).bind λb=>match b with
 |.inl _=>(Y (.inl (aP e,())))
 |.inr c=>Y c) else Y (.inr (.inl ()))) (0,())).bind λb=>match b with
 |.inl _=>(Y (bp,()))
 |.inr c=>Y c)
 |.inr c=>Y c
def Gr:cJ->bv hK:=λ(a,_)=>(nz (a,())).bind λ(b,_)=>Y ((!b),())
def Gt:(bi×bt×bt)->bv cJ:=λ(b,_,_)=>(loop (σ:=cJ) (ρ:=np) (λ(a,_)=>bw (br (a<ak b)) ((al b a).bind λf=>(Gr (f,())).bind λ(e,_)=>bw e (Y (.inr (.inr (a,())))) (Y (.inl (aP a,())))) (Y (.inr (.inl ())))) (0,())).bind λc=>match c with
 |.inl _=>(Y ((-1:Z),()))
 |.inr d=>Y d
def Cx:(bi×bt×bt)->bv hK:=λ(b,_,_)=>(Gt (b,(),())).bind λ(a,_)=>Y (br (a>=0),())
def so:n5->bv cJ:=λ(a,_)=>bB (α:=hK) ((Cw (a.1,0,200,())).bind λ(b,_)=>bw ((!b)==bq) ((Cw (a.2.1,0,200,())).bind λ(c,_)=>bw ((!c)==bq) (Y (br (ak a.2.2.2.1>10000),())) (Y (bp,()))) (Y (bp,()))) λ(f,_)=>(bw f (Y (6,())) ((Cu (a,())).bind λ(d,_)=>bw (!d) (Y (1,())) ((Cx (a.2.2.2.2.1,(),())).bind λ(e,_)=>bw e (Y (4,())) (Y (0,())))))
def Dd:nq->bv (bi×bA×bt):=λ(h,a,_)=>(bif ak h !=a then Y ([],bq,()) else((fX a a).bind λi=>(fX a a).bind λj=>(loop (σ:=(Z×bi×g8×bt)) (ρ:=(ht⊕(bi×bA×bt))) (λ(f,e,g,_)=>bif br (f<ak h) then(bB (α:=(bi×g8×bt)⊕((Z×bi×g8×bt)⊕(ht⊕(bi×bA×bt)))) ((al h f).bind λd=>bB (α:=(bi×g8×bt)⊕((bi×g8×bt)⊕((Z×bi×g8×bt)⊕(ht⊕(bi×bA×bt))))) (bB (α:=(bA×bi×g8×bt)) (bw (br (d<0)==bq) (bw (br (d>=a)==bq) (rd g d λs=>Y (s,e,g,())) (Y (bp,e,g,()))) (Y (bp,e,g,()))) λ(o,k,p,_)=>bw o (Y (.inr (.inr (.inr (.inr ([],bq,())))))) (Y (.inl (k,p,())))) λb=>match b with
 |.inl (l,q,_)=>(wr l d f λt=>wr q d bp λu=>Y (.inl (t,u,())))
 |.inr c=>Y c) λb=>match b with
 |.inl (m,r,_)=>(Y (.inl (aP f,m,r,())))
 |.inr c=>Y c) else Y (.inr (.inl (e,())))) (0,bJ i (0:Z),bJ j bq,())).bind λb=>match b with
 |.inl (n,_)=>(Y (n,bp,()))
 |.inr c=>Y c))
def wM:n5->bv jJ:=λ(b,_)=>(loop (σ:=n4) (ρ:=jJ) (λ(a,e,_)=>bw (br (a<b.2.1)) ((al b.2.2.1 a).bind λj=>(loop (σ:=n4) (ρ:=jJ) (λ(c,d,_)=>(al b.2.2.1 (aP a)).bind λk=>bw (br (c<k)) ((al b.2.2.2.1 c).bind λf=>(al b.2.2.2.2.1 c).bind λg=>(cG (d.length+([(f,(a,(g,())))]).length)).bind λ_=>Y (.inl (aP c,(d++[(f,(a,(g,())))]),()))) (Y (.inr (d,())))) (j,e,())).bind λ(h,_)=>Y (.inl (aP a,h,()))) (Y (.inr (e,())))) (0,[],())).bind λ(i,_)=>Y (i,())
def Gs:jJ->bv jJ:=λ(a,_)=>rv a.length (Y ([],())) ((cG (([]:kT).length+a.length)).bind λ_=>Y (([]++a),()))
def wN:((Z×(Z×cJ))×(Z×(Z×cJ))×bt)->bv cJ:=λ(a,b,_)=>(uf (a.2.1,b.2.1,())).bind λ(c,_)=>(uf (a.1,b.1,())).bind λ(aE,_)=>(BI ([c,aE],())).bind λ(d,_)=>Y (d,())
def zd:(kT×Z×Z×bt×bt)->bv jJ:=λ(h,e,g,_,_)=>(loop (σ:=n4) (ρ:=jJ) (λ(d,f,_)=>bif br (d<g) then(loop (σ:=n4) (ρ:=jJ) (λ(a,b,_)=>bB (α:=jJ⊕(n4⊕jJ)) (bw (br (a>e)==bp) (rd b a λn=>rd b (ay (a-1)) λo=>(wN (n,o,())).bind λ(m,_)=>bw (br (m<0)) (Y (.inl (b,()))) (Y (.inr (.inr (b,()))))) (Y (.inr (.inr (b,()))))) λk=>match k with
 |.inl (c,_)=>(rd c (ay (a-1)) λp=>rd c a λq=>wr c a p λr=>wr r (ay (a-1)) q λs=>Y (.inl (ay (a-1),s,())))
 |.inr l=>Y l) (d,f,())).bind λ(i,_)=>Y (.inl (aP d,i,())) else Y (.inr (f,()))) (aP e,h,())).bind λ(j,_)=>Y (j,())
def CK:Sr->bv jJ:=λ(h,e,a,g,_,_)=>(bw (ay (a-e)==1) bo (bw (ay (g-a)==1) ((loop (σ:=yw) (ρ:=n4) (λ(c,d,b,_)=>bw (br (c<d)) ((eM bC (aJ (ay (c+d))) 1).bind λf=>rd b a λo=>rd b (ay f) λp=>(wN (o,p,())).bind λ(n,_)=>bw (!(br (n<0))) (Y (.inl (aP (ay f),d,b,()))) bo) (Y (.inr (c,b,())))) (e,a,h,())).bind λ(l,i,_)=>(loop (σ:=n4) (ρ:=jJ) (λ(m,j,_)=>bw (br (m>l)) bo (Y (.inr (j,())))) (a,i,())).bind λ(k,_)=>Y (k,())) bo))
def GA:(kT×Z×bt×bt)->bv jJ:=λ(l,a,_,_)=>(loop (σ:=yw) (ρ:=n4) (λ(e,c,h,_)=>bw (br (c<=a)) ((zd (h,e,c,(),())).bind λ(s,_)=>Y (.inl (c,ay (c+20),s,()))) (Y (.inr (e,h,())))) (0,20,l,())).bind λ(j,p,_)=>(zd (p,j,a,(),())).bind λ(q,_)=>(loop (σ:=n4) (ρ:=jJ) (λ(b,f,_)=>bw (br (b<a)) ((loop (σ:=yw) (ρ:=n4) (λ(i,k,m,_)=>bw (br (k<=a)) bo (Y (.inr (i,m,())))) (0,ay (2*b),f,())).bind λ(d,g,_)=>bB (α:=jJ) (bw (br (ay (d+b)<a)) ((CK (g,d,ay (d+b),a,(),())).bind λ(r,_)=>Y (r,())) (Y (g,()))) λ(n,_)=>Y (.inl (ay (b*2),n,()))) (Y (.inr (f,())))) (20,q,())).bind λ(o,_)=>
 Y (o,())
def Gy:(kT×bt×bt)->bv jJ:=λ(a,_,_)=>(GA (a,ak a,(),())).bind λ(b,_)=>Y (b,())
def Cv:jJ->bv jJ:=λ(a,_)=>(Gs (a,())).bind λ(c,_)=>(Gy (c,(),())).bind λ(b,_)=>Y (b,())
def Ct:yw->bv n5:=λ(s,e,o,_)=>(fX (aP e) (aP e)).bind λr=>(Cv (o,())).bind λ(i,_)=>(loop (σ:=(Z×fJ×fJ×kT×bt)) (ρ:=(fJ×fJ×bt)) (λ(f,k,a,l,_)=>bif br (f<ak i) then rd l f λb=>(cG ((a.2.2.2.1).length+([b.1]).length)).bind λ_=>(cG ((a.2.2.2.2.1).length+([b.2.2.1]).length)).bind λ_=>(bj (((a.1,(a.2.1,(a.2.2.1,((a.2.2.2.1++[b.1]),a.2.2.2.2)))).1,((a.1,(a.2.1,(a.2.2.1,((a.2.2.2.1++[b.1]),a.2.2.2.2)))).2.1,((a.1,(a.2.1,(a.2.2.1,((a.2.2.2.1++[b.1]),a.2.2.2.2)))).2.2.1,((a.1,(a.2.1,(a.2.2.1,((a.2.2.2.1++[b.1]),a.2.2.2.2)))).2.2.2.1,(((a.1,(a.2.1,(a.2.2.1,((a.2.2.2.1++[b.1]),a.2.2.2.2)))).2.2.2.2.1++[b.2.2.1]),(a.1,(a.2.1,(a.2.2.1,((a.2.2.2.1++[b.1]),a.2.2.2.2)))).2.2.2.2.2))))).2.2.1).length (aP b.2.1)).bind λn=>(bb ((a.1,(a.2.1,(a.2.2.1,((a.2.2.2.1++[b.1]),a.2.2.2.2)))).1,((a.1,(a.2.1,(a.2.2.1,((a.2.2.2.1++[b.1]),a.2.2.2.2)))).2.1,((a.1,(a.2.1,(a.2.2.1,((a.2.2.2.1++[b.1]),a.2.2.2.2)))).2.2.1,((a.1,(a.2.1,(a.2.2.1,((a.2.2.2.1++[b.1]),a.2.2.2.2)))).2.2.2.1,(((a.1,(a.2.1,(a.2.2.1,((a.2.2.2.1++[b.1]),a.2.2.2.2)))).2.2.2.2.1++[b.2.2.1]),(a.1,(a.2.1,(a.2.2.1,((a.2.2.2.1++[b.1]),a.2.2.2.2)))).2.2.2.2.2))))).2.2.1 n λm=>Y m).bind λu=>
 (bj (((a.1,(a.2.1,(a.2.2.1,((a.2.2.2.1++[b.1]),a.2.2.2.2)))).1,((a.1,(a.2.1,(a.2.2.1,((a.2.2.2.1++[b.1]),a.2.2.2.2)))).2.1,((a.1,(a.2.1,(a.2.2.1,((a.2.2.2.1++[b.1]),a.2.2.2.2)))).2.2.1,((a.1,(a.2.1,(a.2.2.1,((a.2.2.2.1++[b.1]),a.2.2.2.2)))).2.2.2.1,(((a.1,(a.2.1,(a.2.2.1,((a.2.2.2.1++[b.1]),a.2.2.2.2)))).2.2.2.2.1++[b.2.2.1]),(a.1,(a.2.1,(a.2.2.1,((a.2.2.2.1++[b.1]),a.2.2.2.2)))).2.2.2.2.2))))).2.2.1).length (aP b.2.1)).bind λg=>((((bb ((a.1,(a.2.1,(a.2.2.1,((a.2.2.2.1++[b.1]),a.2.2.2.2)))).1,((a.1,(a.2.1,(a.2.2.1,((a.2.2.2.1++[b.1]),a.2.2.2.2)))).2.1,((a.1,(a.2.1,(a.2.2.1,((a.2.2.2.1++[b.1]),a.2.2.2.2)))).2.2.1,((a.1,(a.2.1,(a.2.2.1,((a.2.2.2.1++[b.1]),a.2.2.2.2)))).2.2.2.1,(((a.1,(a.2.1,(a.2.2.1,((a.2.2.2.1++[b.1]),a.2.2.2.2)))).2.2.2.2.1++[b.2.2.1]),(a.1,(a.2.1,(a.2.2.1,((a.2.2.2.1++[b.1]),a.2.2.2.2)))).2.2.2.2.2))))).2.2.1 g λ_=>Y ((((a.1,(a.2.1,(a.2.2.1,((a.2.2.2.1++[b.1]),a.2.2.2.2)))).1,((a.1,(a.2.1,(a.2.2.1,((a.2.2.2.1++[b.1]),a.2.2.2.2)))).2.1,((a.1,(a.2.1,(a.2.2.1,((a.2.2.2.1++[b.1]),a.2.2.2.2)))).2.2.1,((a.1,(a.2.1,(a.2.2.1,((a.2.2.2.1++[b.1]),a.2.2.2.2)))).2.2.2.1,(((a.1,(a.2.1,(a.2.2.1,((a.2.2.2.1++[b.1]),a.2.2.2.2)))).2.2.2.2.1++[b.2.2.1]),(a.1,(a.2.1,(a.2.2.1,((a.2.2.2.1++[b.1]),a.2.2.2.2)))).2.2.2.2.2))))).2.2.1).set g (aP u))).map λx=>(x,((a.1,(a.2.1,(a.2.2.1,((a.2.2.2.1++[b.1]),a.2.2.2.2)))).1,((a.1,(a.2.1,(a.2.2.1,((a.2.2.2.1++[b.1]),a.2.2.2.2)))).2.1,((a.1,(a.2.1,(a.2.2.1,((a.2.2.2.1++[b.1]),a.2.2.2.2)))).2.2.1,((a.1,(a.2.1,(a.2.2.1,((a.2.2.2.1++[b.1]),a.2.2.2.2)))).2.2.2.1,(((a.1,(a.2.1,(a.2.2.1,((a.2.2.2.1++[b.1]),a.2.2.2.2)))).2.2.2.2.1++[b.2.2.1]),(a.1,(a.2.1,(a.2.2.1,((a.2.2.2.1++[b.1]),a.2.2.2.2)))).2.2.2.2.2))))).2.2.2)).map λy=>(((a.1,(a.2.1,(a.2.2.1,((a.2.2.2.1++[b.1]),a.2.2.2.2)))).1,((a.1,(a.2.1,(a.2.2.1,((a.2.2.2.1++[b.1]),a.2.2.2.2)))).2.1,((a.1,(a.2.1,(a.2.2.1,((a.2.2.2.1++[b.1]),a.2.2.2.2)))).2.2.1,((a.1,(a.2.1,(a.2.2.1,((a.2.2.2.1++[b.1]),a.2.2.2.2)))).2.2.2.1,(((a.1,(a.2.1,(a.2.2.1,((a.2.2.2.1++[b.1]),a.2.2.2.2)))).2.2.2.2.1++[b.2.2.1]),(a.1,(a.2.1,(a.2.2.1,((a.2.2.2.1++[b.1]),a.2.2.2.2)))).2.2.2.2.2))))).2.1,y)).map λz=>(((a.1,(a.2.1,(a.2.2.1,((a.2.2.2.1++[b.1]),a.2.2.2.2)))).1,((a.1,(a.2.1,(a.2.2.1,((a.2.2.2.1++[b.1]),a.2.2.2.2)))).2.1,((a.1,(a.2.1,(a.2.2.1,((a.2.2.2.1++[b.1]),a.2.2.2.2)))).2.2.1,((a.1,(a.2.1,(a.2.2.1,((a.2.2.2.1++[b.1]),a.2.2.2.2)))).2.2.2.1,(((a.1,(a.2.1,(a.2.2.1,((a.2.2.2.1++[b.1]),a.2.2.2.2)))).2.2.2.2.1++[b.2.2.1]),(a.1,(a.2.1,(a.2.2.1,((a.2.2.2.1++[b.1]),a.2.2.2.2)))).2.2.2.2.2))))).1,z)).bind λA=>
 Y (.inl (aP f,k,A,l,())) else Y (.inr (k,a,()))) (0,((0:Z),((0:Z),([],([],([],()))))),(s,(e,(bJ r (0:Z),(([]:bi),(([]:bi),()))))),i,())).bind λ(t,p,_)=>(loop (σ:=(Z×fJ×fJ×bt)) (ρ:=(fJ×fJ×bt)) (λ(d,j,c,_)=>bw (br (d<e)) (rd c.2.2.1 (aP d) λv=>rd c.2.2.1 d λw=>(bj (c.2.2.1).length (aP d)).bind λh=>((((bb c.2.2.1 h λ_=>Y ((c.2.2.1).set h (ay (v+w)))).map λB=>(B,c.2.2.2)).map λC=>(c.2.1,C)).map λD=>(c.1,D)).bind λE=>Y (.inl (aP d,j,E,()))) (Y (.inr (j,c,())))) (0,t,p,())).bind λ(_,q,_)=>Y (q,())
def Cs:n5->bv (fJ×Z×bt):=λ(a,_)=>(so (a,())).bind λ(aE,_)=>(bw (aE !=0) (Y (((0:Z),((0:Z),(([]:bi),(([]:bi),(([]:bi),()))))),aE,())) ((wM (a,())).bind λ(g,_)=>(loop (σ:=(Z×fJ×kT×kT×bt)) (ρ:=(fJ×kT×bt)) (λ(d,e,b,f,_)=>bw (br (d<ak g)) (bB (α:=(fJ×kT×kT×bt)) (rd f d λc=>bw (br (c.1>=c.2.1)) ((cG (b.length+([c]).length)).bind λ_=>Y (e,(b++[c]),f,())) (Y (e,b,f,()))) λ(k,h,l,_)=>Y (.inl (aP d,k,h,l,()))) (Y (.inr (e,b,())))) (0,((0:Z),((0:Z),([],([],([],()))))),[],g,())).bind λ(_,i,_)=>(Ct (a.1,a.2.1,i,())).bind λ(j,_)=>Y (j,0,())))
def Cr:n5->bv jJ:=λ(a,_)=>(so (a,())).bind λ(aE,_)=>(bw (aE !=0) (Y ([],())) ((wM (a,())).bind λ(b,_)=>Y (b,())))
def yU:n5->bv ((bm bi×bt)×Z×bt):=λ(a,_)=>(so (a,())).bind λ(c,_)=>(bw (c !=0) (Y ((([]:bm bi),()),c,())) (bw (a.1 !=a.2.1) (Y ((([]:bm bi),()),5,())) ((yV (a.2.1,())).bind λ(j,_)=>(Cr (a,())).bind λ(aE,_)=>(loop (σ:=(Z×(bm bi×bt)×bm g8×kT×bt)) (ρ:=((bm bi×bt)×bm g8×bt)) (λ(b,d,e,f,_)=>bw (br (b<ak aE)) (rd f b λg=>(yY (e,g.1,g.2.1,())).bind λ(h,_)=>Y (.inl (aP b,d,h,f,()))) (Y (.inr (d,e,())))) (0,([],()),j,aE,())).bind λ(_,k,_)=>(yX (k,())).bind λ(i,_)=>Y (i,0,()))))
def wZ:(fJ×bi×bt)->bv (bv qN×Z×bt):=λ(a,q,_)=>(so (a,())).bind λ(r,_)=>(bif r !=0 then Y (bo,r,()) else bif a.1 !=a.2.1 then Y (bo,5,()) else(Dd (q,a.2.1,())).bind λ(s,E,_)=>bif !E then Y (bo,90,()) else(Cs (a,())).bind λ(F,_,_)=>(yU (F,())).bind λ(G,_,_)=>(yW (G,q,())).bind λ(t,_,_)=>(fX a.2.1 a.2.1).bind λp=>(loop (σ:=(Z×fJ×qN×bt)) (ρ:=(fJ×qN×bt)) (λ(j,k,c,_)=>bw (br (j<ak ((a.2.1,(t,(bJ p (bo:bv (bm (Z×fL)×X)),()))).2.2.1))) ((bj (c.2.2.1).length j).bind λn=>((((bb c.2.2.1 n λ_=>Y ((c.2.2.1).set n (Y ([],0)))).map λL=>(L,c.2.2.2)).map λM=>(c.2.1,M)).map λN=>(c.1,N)).bind λO=>Y (.inl (aP j,k,O,()))) (Y (.inr (k,c,())))) (0,a,(a.2.1,(t,(bJ p (bo:bv (bm (Z×fL)×X)),()))),())).bind λ(l,z,_)=>
 (loop (σ:=(Z×fJ×qN×bt)) (ρ:=(qN×bt)) (λ(e,m,o,_)=>bif br (e<l.2.1) then(al m.2.2.1 e).bind λI=>(loop (σ:=(Z×fJ×qN×bt)) (ρ:=(fJ×qN×bt)) (λ(f,d,b,_)=>(al d.2.2.1 (aP e)).bind λJ=>bw (br (f<J)) (bB (α:=(fJ×qN×bt)) ((al d.2.2.2.1 f).bind λu=>bw (br (u>=e)) ((al s u).bind λg=>(al s e).bind λh=>(bj (b.2.2.1).length (if h<g then h else g)).bind λi=>(al d.2.2.2.2.1 f).bind λK=>(j2 (K,())).bind λ(H,_)=>(bb b.2.2.1 i λx=>Y x).bind λC=>(xx C (if h>g then h else g) H).bind λD=>((((bb b.2.2.1 i λ_=>Y ((b.2.2.1).set i D)).map λP=>(P,b.2.2.2)).map λQ=>(b.2.1,Q)).map λR=>(b.1,R)).bind λS=>Y (d,S,())) (Y (d,b,()))) λ(v,A,_)=>Y (.inl (aP f,v,A,()))) (Y (.inr (d,b,())))) (I,m,o,())).bind λ(w,B,_)=>
 Y (.inl (aP e,w,B,())) else Y (.inr (o,()))) (0,l,z,())).bind λ(y,_)=>Y (Y y,0,()))
def wY:(bv qN×Z×Z×bt)->bv hh:=λ(c,a,b,_)=>c.bind λd=>(al d.2.2.1 (if b<a then b else a)).bind λe=>Y (((mD (α:=fL) e (if b>a then b else a)).getD (bq,((bq,([],())),((0:Z),())))),())
def uv:nr->bv cJ:=λ(a,b,_)=>(i4 (aJ a) (aJ b)).bind λc=>Y (ay c,())
def uw:nq->bv cJ:=λ(b,a,_)=>bB (α:=cJ) (bw (br (ak b>0)) ((uv (a,ak b,())).bind λ(e,_)=>(al b e).bind λf=>Y (ts bC (aJ (aJ (aP a)*11400714819323198485)) f,())) (Y (aJ (aJ (aP a)*11400714819323198485),()))) λ(c,_)=>(eM bC c 31).bind λd=>(eM bC (aJ (ts bC c d*13787848793156543929)) 29).bind λg=>Y (ts bC (aJ (ts bC c d*13787848793156543929)) g,())
def GB:cJ->bv cJ:=λ(b,_)=>(i4 b 19).bind λc=>(CV (ay (ay c-9),0,())).bind λ(a,_)=>Y (a,())
def wO:nr->bv cJ:=λ(a,e,_)=>(uv (e,4,())).bind λ(b,_)=>(bw (b==1) ((eM bC a 52).bind λf=>(h6 bC (aJ (1019+ey bC f 7)) 52).bind λg=>Y (fN bC (ey bC a 9227875636482146303) g,())) (bw (b==2) ((eM bC a 8).bind λh=>(i4 h 81).bind λi=>(h6 bC (aJ (983+i)) 52).bind λj=>Y (fN bC (ey bC a 9225623836668461056) j,())) (bw (b==3) ((pY (a,())).bind λ(d,_)=>bw (!d) (Y (0,())) (Y (a,()))) ((GB (a,())).bind λ(c,_)=>Y (c,())))))
def CX:ht->bv hK:=λ(b,_)=>(loop (σ:=cJ) (ρ:=qO) (λ(a,_)=>bw (br (a<ak b)) ((al b a).bind λe=>(pY (e,())).bind λ(aE,_)=>bw (!aE) (Y (.inr (.inr (bq,())))) (Y (.inl (aP a,())))) (Y (.inr (.inl ())))) (0,())).bind λc=>match c with
 |.inl _=>(Y (bp,()))
 |.inr d=>Y d
def q1:n5->bv cJ:=λ(a,_)=>bB (α:=bt⊕cJ) (bw (br (a.1<0)==bq) (bw (br (a.1>200)==bq) (bw (br (a.2.1<0)==bq) (bw (br (a.2.1>200)==bq) (bw (br (ak a.2.2.2.1>10000)) (Y (.inr (6,()))) (Y (.inl ()))) (Y (.inr (6,())))) (Y (.inr (6,())))) (Y (.inr (6,())))) (Y (.inr (6,())))) λb=>match b with
 |.inl _=>(bB (α:=bt⊕cJ) (bw ((ak a.2.2.2.2.1 !=ak a.2.2.2.1)==bq) (bw ((ak a.2.2.1 !=aP a.2.1)==bq) ((al a.2.2.1 0).bind λn=>bw ((n !=0)==bq) ((al a.2.2.1 a.2.1).bind λo=>bw (o !=ak a.2.2.2.1) (Y (.inr (1,()))) (Y (.inl ()))) (Y (.inr (1,())))) (Y (.inr (1,())))) (Y (.inr (1,())))) λb=>match b with
 |.inl _=>((loop (σ:=cJ) (ρ:=np) (λ(f,_)=>bw (br (f<a.2.1)) ((al a.2.2.1 f).bind λp=>(al a.2.2.1 (aP f)).bind λq=>bw (br (p>q)) (Y (.inr (.inr (1,())))) (Y (.inl (aP f,())))) (Y (.inr (.inl ())))) (0,())).bind λb=>match b with
 |.inl _=>((loop (σ:=cJ) (ρ:=np) (λ(e,_)=>bif br (e<a.2.1) then((al a.2.2.1 e).bind λr=>(loop (σ:=cJ) (ρ:=(bt⊕(cJ⊕np))) (λ(d,_)=>(al a.2.2.1 (aP e)).bind λh=>bif br (d<h) then(bB (α:=bt⊕(cJ⊕(bt⊕(cJ⊕np)))) ((al a.2.2.2.1 d).bind λi=>bw (br (i<0)==bq) ((al a.2.2.2.1 d).bind λj=>bw (br (j>=a.1)==bq) ((al a.2.2.1 e).bind λk=>bw (br (d>k)==bp) ((al a.2.2.2.1 d).bind λl=>(al a.2.2.2.1 (ay (d-1))).bind λm=>bw (br (l<=m)) (Y (.inr (.inr (.inr (.inr (.inr (1,()))))))) (Y (.inl ()))) (Y (.inl ()))) (Y (.inr (.inr (.inr (.inr (.inr (1,())))))))) (Y (.inr (.inr (.inr (.inr (.inr (1,())))))))) λb=>match b with
 |.inl _=>(Y (.inl (aP d,())))
 |.inr c=>Y c) else Y (.inr (.inl ()))) (r,())).bind λb=>match b with
 |.inl _=>(Y (.inl (aP e,())))
 |.inr c=>Y c) else Y (.inr (.inl ()))) (0,())).bind λb=>match b with
 |.inl _=>((CX (a.2.2.2.2.1,())).bind λ(g,_)=>bw (!g) (Y (4,())) (Y (0,())))
 |.inr c=>Y c)
 |.inr c=>Y c)
 |.inr c=>Y c)
 |.inr c=>Y c
def GN:(fJ×Z×Z×bt)->bv cJ:=λ(a,f,b,_)=>bB (α:=bt⊕cJ) ((q1 (a,())).bind λ(aE,_)=>bw ((aE !=0)==bq) (bw (br (b<0)==bq) (bw (br (b>=a.2.1)) (Y (.inr (0,()))) (Y (.inl ()))) (Y (.inr (0,())))) (Y (.inr (0,())))) λd=>match d with
 |.inl _=>((al a.2.2.1 b).bind λg=>(loop (σ:=cJ) (ρ:=np) (λ(c,_)=>(al a.2.2.1 (aP b)).bind λh=>bw (br (c<h)) ((al a.2.2.2.1 c).bind λi=>bw (i==f) ((al a.2.2.2.2.1 c).bind λj=>Y (.inr (.inr (j,())))) (Y (.inl (aP c,())))) (Y (.inr (.inl ())))) (g,())).bind λd=>match d with
 |.inl _=>(Y (0,()))
 |.inr e=>Y e)
 |.inr e=>Y e
def CL:nq->bv ht:=λ(m,j,_)=>(loop (σ:=nq) (ρ:=ht) (λ(a,c,_)=>bw (br (c<j)) ((uw (m,ay (700+c),())).bind λ(l,_)=>(eM bC l 1).bind λn=>(uv (ay n,aP c,())).bind λ(i,_)=>((Y (0)).bind λg=>(gy i).bind λh=>(hb g h a.length).map λ_=>(g,h)).bind λb=>(cG (([]:bi).length+((a.take b.2).drop b.1).length)).bind λ_=>(cG (([]++((a.take b.2).drop b.1)).length+([c]).length)).bind λ_=>((gy i).bind λe=>(Y a.length).bind λf=>(hb e f a.length).map λ_=>(e,f)).bind λd=>(cG ((([]++((a.take b.2).drop b.1))++[c]).length+((a.take d.2).drop d.1).length)).bind λ_=>Y (.inl (((([]++((a.take b.2).drop b.1))++[c])++((a.take d.2).drop d.1)),aP c,()))) (Y (.inr (a,())))) ([],0,())).bind λ(k,_)=>Y (k,())
def GR:nq->bv hK:=λ(b,c,_)=>(bif ak b !=c then Y (bq,()) else((fX c c).bind λg=>(loop (σ:=(Z×g8×bt)) (ρ:=qO) (λ(a,f,_)=>bif br (a<c) then(bB (α:=(g8×bt)⊕((Z×g8×bt)⊕qO)) (bB (α:=(g8×bt)⊕((g8×bt)⊕((Z×g8×bt)⊕qO))) ((al b a).bind λl=>bw (br (l<0)==bq) ((al b a).bind λm=>bw (br (m>=c)==bq) ((al b a).bind λn=>rd f n λj=>bw j (Y (.inr (.inr (.inr (.inr (bq,())))))) (Y (.inl (f,())))) (Y (.inr (.inr (.inr (.inr (bq,()))))))) (Y (.inr (.inr (.inr (.inr (bq,()))))))) λd=>match d with
 |.inl (h,_)=>((al b a).bind λk=>wr h k bp λo=>Y (.inl (o,())))
 |.inr e=>Y e) λd=>match d with
 |.inl (i,_)=>(Y (.inl (aP a,i,())))
 |.inr e=>Y e) else Y (.inr (.inl ()))) (0,bJ g bq,())).bind λd=>match d with
 |.inl _=>(Y (bp,()))
 |.inr e=>Y e))
def GS:(fJ×bi×bt)->bv cJ:=λ(a,c,_)=>(q1 (a,())).bind λ(b,_)=>(bw (b !=0) (Y (b,())) (bw (a.1 !=a.2.1) (Y (5,())) ((GR (c,a.1,())).bind λ(aE,_)=>bw (!aE) (Y (90,())) (Y (0,())))))
def zo:n5->bv jJ:=λ(b,_)=>(q1 (b,())).bind λ(j,_)=>(bw (j !=0) (Y ([],())) ((loop (σ:=n4) (ρ:=jJ) (λ(a,e,_)=>bw (br (a<b.2.1)) ((al b.2.2.1 a).bind λk=>(loop (σ:=n4) (ρ:=jJ) (λ(c,d,_)=>(al b.2.2.1 (aP a)).bind λl=>bw (br (c<l)) ((al b.2.2.2.1 c).bind λf=>(al b.2.2.2.2.1 c).bind λg=>(cG (d.length+([(f,(a,(g,())))]).length)).bind λ_=>Y (.inl (aP c,(d++[(f,(a,(g,())))]),()))) (Y (.inr (d,())))) (k,e,())).bind λ(h,_)=>Y (.inl (aP a,h,()))) (Y (.inr (e,())))) (0,[],())).bind λ(i,_)=>Y (i,())))
def CY:yw->bv n5:=λ(d,g,h,_)=>(fX (ay (d*g)) (ay (d*g))).bind λy=>(loop (σ:=(Z×fJ×fJ×bi×bt)) (ρ:=(fJ×fJ×bi×bt)) (λ(e,o,m,k,_)=>bw (br (e<ak h)) ((al h e).bind λD=>(al h e).bind λC=>wr k (ay (ay (D.2.1*d)+C.1)) (aP e) λE=>Y (.inl (aP e,o,m,E,()))) (Y (.inr (o,m,k,())))) (0,((0:Z),((0:Z),([],([],([],()))))),(d,(g,([0],(([]:bi),(([]:bi),()))))),bJ y (0:Z),())).bind λ(z,v,r,_)=>(loop (σ:=(Z×fJ×fJ×bi×bt)) (ρ:=(fJ×fJ×bt)) (λ(i,n,l,s,_)=>bif br (i<g) then(loop (σ:=(Z×fJ×fJ×bi×bt)) (ρ:=(fJ×fJ×bi×bt)) (λ(b,j,a,f,_)=>bif br (b<d) then bB (α:=(fJ×fJ×bi×bt)) (rd f (ay (ay (i*d)+b)) λp=>bif br (p>0) then(cG ((a.2.2.2.1).length+([b]).length)).bind λ_=>(al h (ay (p-1))).bind λq=>
 (cG (((a.1,(a.2.1,(a.2.2.1,((a.2.2.2.1++[b]),a.2.2.2.2)))).2.2.2.2.1).length+([q.2.2.1]).length)).bind λ_=>Y (j,((a.1,(a.2.1,(a.2.2.1,((a.2.2.2.1++[b]),a.2.2.2.2)))).1,((a.1,(a.2.1,(a.2.2.1,((a.2.2.2.1++[b]),a.2.2.2.2)))).2.1,((a.1,(a.2.1,(a.2.2.1,((a.2.2.2.1++[b]),a.2.2.2.2)))).2.2.1,((a.1,(a.2.1,(a.2.2.1,((a.2.2.2.1++[b]),a.2.2.2.2)))).2.2.2.1,(((a.1,(a.2.1,(a.2.2.1,((a.2.2.2.1++[b]),a.2.2.2.2)))).2.2.2.2.1++[q.2.2.1]),(a.1,(a.2.1,(a.2.2.1,((a.2.2.2.1++[b]),a.2.2.2.2)))).2.2.2.2.2))))),f,()) else Y (j,a,f,())) λ(A,w,t,_)=>Y (.inl (aP b,A,w,t,())) else Y (.inr (j,a,f,()))) (0,n,l,s,())).bind λ(B,c,u,_)=>(cG ((c.2.2.1).length+([ak c.2.2.2.1]).length)).bind λ_=>Y (.inl (aP i,B,(c.1,(c.2.1,((c.2.2.1++[ak c.2.2.2.1]),c.2.2.2))),u,())) else Y (.inr (n,l,()))) (0,z,v,r,())).bind λ(_,x,_)=>
 Y (x,())
def sw:n5->bv (fJ×Z×bt):=λ(b,_)=>(q1 (b,())).bind λ(aE,_)=>(bw (aE !=0) (Y (((0:Z),((0:Z),(([]:bi),(([]:bi),(([]:bi),()))))),aE,())) ((zo (b,())).bind λ(d,_)=>(loop (σ:=(Z×fJ×kT×bt)) (ρ:=(fJ×kT×bt)) (λ(a,e,c,_)=>bw (br (a<ak d)) (bB (α:=(fJ×kT×bt)) ((al d a).bind λl=>(al d a).bind λk=>bw (br (l.1>=k.2.1)) ((al d a).bind λf=>(cG (c.length+([f]).length)).bind λ_=>Y (e,(c++[f]),())) (Y (e,c,()))) λ(j,g,_)=>Y (.inl (aP a,j,g,()))) (Y (.inr (e,c,())))) (0,((0:Z),((0:Z),([],([],([],()))))),[],())).bind λ(_,h,_)=>(CY (b.1,b.2.1,h,())).bind λ(i,_)=>Y (i,0,())))
def sx:n5->bv ((bm bi×bt)×Z×bt):=λ(a,_)=>(q1 (a,())).bind λ(g,_)=>(bw (g !=0) (Y ((([]:bm bi),()),g,())) (bw (a.1 !=a.2.1) (Y ((([]:bm bi),()),5,())) ((zr (a.1,())).bind λ(l,_)=>(zo (a,())).bind λ(aE,_)=>(loop (σ:=(Z×(bm bi×bt)×bm g8×bt)) (ρ:=((bm bi×bt)×bm g8×bt)) (λ(c,h,b,_)=>bw (br (c<ak aE)) ((al aE c).bind λo=>(bj b.length o.1).bind λd=>(al aE c).bind λn=>((bb b d λi=>Y i).bind λj=>bj j.length n.2.1).bind λf=>(bb b d λe=>(bb e f λ_=>Y (e.set f bp)).map λp=>b.set d p).bind λq=>Y (.inl (aP c,h,q,()))) (Y (.inr (h,b,())))) (0,([],()),l,())).bind λ(_,m,_)=>(zp (m,())).bind λ(k,_)=>Y (k,0,()))))
def GQ:(fJ×bi×bt)->bv ((bm bi×bt)×bt):=λ(a,b,_)=>(sw (a,())).bind λ(c,_,_)=>(sx (c,())).bind λ(d,_,_)=>(q2 (d,b,())).bind λ(e,_,_)=>Y (e,())
def zy:(fJ×bi×Z×Z×bt)->bv hh:=λ(d,c,e,f,_)=>(al c e).bind λa=>(al c f).bind λb=>(GN (d,(if b>a then b else a),(if b<a then b else a),())).bind λ(g,_)=>(j3 (g,())).bind λ(h,_)=>Y (h,())
def C5:nr->bv hh:=λ(a,b,_)=>(j3 (a,())).bind λ(c,_)=>(j3 (b,())).bind λ(aE,_)=>(kD (c,aE,())).bind λ(d,_)=>Y (d,())
def GO:cJ->bv hK:=λ(a,_)=>(bw ((a==0)==bq) (Y ((a==9223372036854775808),())) (Y (bp,())))
def zx:lq->bv cJ:=λ(a,b,_)=>(GM (a,b,0,())).bind λ(c,_)=>Y (c,())
def C4:lq->bv hK:=λ(a,b,_)=>(GK (a,b,())).bind λ(c,_,_)=>Y (br (c<0),())
def ze:(fJ×bi×bi×bt)->bv (jI×bt):=λ(O,fl,ft,_)=>(sw (O,())).bind λ(aE,_,_)=>(sx (aE,())).bind λ(fp,_,_)=>(q2 (fp,fl,())).bind λ(fs,_,_)=>(zv (fs,())).bind λ(h,_,_)=>(loop (σ:=(Z×jI×bm g8×bt)) (ρ:=kb) (λ(b,y,s,_)=>bif br (b<ak h) then bB (α:=kb) (bB (α:=kb) (bB (α:=(bA×jI×bm g8×bt)) (bw ((b==0)==bq) ((uw (ft,ay (900+b),())).bind λ(fn,_)=>(eM bC fn 7).bind λf5=>(i4 f5 3).bind λf6=>Y (br (f6>0),y,s,())) (Y (bp,y,s,()))) λ(fz,z,t,_)=>bif fz then(cG (z.length+([(b,(aP b,(([]:bi),((-1:Z),()))))]).length)).bind λ_=>(fX (ak h) (ak h)).bind λN=>(cG (t.length+([bJ N bq]).length)).bind λ_=>Y ((z++[(b,(aP b,(([]:bi),((-1:Z),()))))]),(t++[bJ N bq]),()) else
 Y (z,t,())) λ(m,co,_)=>(bj m.length (ay (ak m-1))).bind λG=>(bb m G λB=>Y (m.set G (B.1,(aP b,B.2.2)))).bind λhc=>(loop (σ:=(Z×jI×bm g8×bt)) (ρ:=kb) (λ(x,L,l,_)=>(al h b).bind λf7=>bw (br (x<ak f7)) ((bj l.length (ay (ak m-1))).bind λw=>(al h b).bind λf8=>(al f8 x).bind λf9=>((bb l w λT=>Y T).bind λU=>bj U.length f9).bind λH=>(bb l w λC=>(bb C H λ_=>Y (C.set H bp)).map λhi=>l.set w hi).bind λhr=>Y (.inl (aP x,L,hr,()))) (Y (.inr (L,l,())))) (0,hc,co,())).bind λ(el,cs,_)=>Y (el,cs,())) λ(em,cv,_)=>Y (.inl (aP b,em,cv,())) else Y (.inr (y,s,()))) (0,[],[],())).bind λ(eq,c1,_)=>(loop (σ:=(Z×jI×bm g8×bt)) (ρ:=(jI×bt)) (λ(a,n,c2,_)=>bif br (a<ak n) then(bj n.length a).bind λd1=>
 (bb n d1 λV=>Y V.1).bind λgc=>(loop (σ:=(Z×jI×bm g8×bt)) (ρ:=kb) (λ(c,d,f,_)=>bif br (c<ak h) then bB (α:=kb) ((bj f.length a).bind λI=>((bb f I λad=>Y ad).bind λam=>bj am.length c).bind λd2=>(bb f I λan=>bb an d2 λap=>Y ap).bind λge=>bif !ge then Y (d,f,()) else(bj d.length a).bind λJ=>(bb d J λav=>Y av.2.2.1).bind λf1=>(cG (f1.length+([c]).length)).bind λ_=>(bj d.length a).bind λp=>bif bI J p&&bp then(bb d p λa0=>Y a0.2.2.1).bind λf2=>(bb d p λr=>Y (d.set p (r.1,(r.2.1,((f2++[c]),r.2.2.2))))).bind λi=>bB (α:=kb) (bB (α:=(bA×jI×bm g8×bt)) ((bj i.length a).bind λd3=>(bb i d3 λa3=>Y a3.2.1).bind λgf=>bif br (c>=gf)==bp then(bj i.length a).bind λd4=>(bb i d4 λa4=>Y a4.2.2.2.1).bind λgi=>
 Y (br (gi<0),i,f,()) else Y (bq,i,f,())) λ(fT,M,D,_)=>bw fT ((loop (σ:=(Z×jI×bm g8×bt)) (ρ:=kb) (λ(j,e,u,_)=>bw (br (j<ak e)) (bB (α:=kb) (bB (α:=(bA×jI×bm g8×bt)) ((bj e.length j).bind λd5=>(bb e d5 λbl=>Y bl.1).bind λgl=>bw (br (c>=gl)==bp) ((bj e.length j).bind λd6=>(bb e d6 λbs=>Y bs.2.1).bind λgo=>Y (br (c<go),e,u,())) (Y (bq,e,u,()))) λ(f0,q,E,_)=>bw f0 ((bj q.length a).bind λK=>(bb q K λo=>Y (q.set K (o.1,(o.2.1,(o.2.2.1,(j,o.2.2.2.2)))))).bind λhs=>Y (hs,E,())) (Y (q,E,()))) λ(ex,dl,_)=>Y (.inl (aP j,ex,dl,()))) (Y (.inr (e,u,())))) (aP a,M,D,())).bind λ(d7,bx,_)=>Y (d7,bx,())) (Y (M,D,()))) λ(g,k,_)=>(bj g.length a).bind λds=>
 (bb g ds λP=>Y P.2.1).bind λf3=>bw (br (c>=f3)) ((bj g.length a).bind λd0=>(bb g d0 λQ=>Y Q.2.2.2.1).bind λf4=>(bj k.length f4).bind λv=>((bb k v λR=>Y R).bind λS=>bj S.length c).bind λF=>(bb k v λA=>(bb A F λ_=>Y (A.set F bp)).map λgs=>k.set v gs).bind λgt=>Y (g,gt,())) (Y (g,k,())) else bo) λ(d8,ce,_)=>Y (.inl (aP c,d8,ce,())) else Y (.inr (d,f,()))) (gc,n,c2,())).bind λ(d9,ci,_)=>Y (.inl (aP a,d9,ci,())) else Y (.inr (n,()))) (0,eq,c1,())).bind λ(ek,_)=>Y (ek,())
def zb:nq->bv cJ:=λ(b,e,_)=>(loop (σ:=cJ) (ρ:=np) (λ(a,_)=>bw (br (a<ak b)) ((al b a).bind λf=>bw (e==f) (Y (.inr (.inr (a,())))) (Y (.inl (aP a,())))) (Y (.inr (.inl ())))) (0,())).bind λc=>match c with
 |.inl _=>(Y ((-1:Z),()))
 |.inr d=>Y d
def GP:(fJ×bi×jI×bt)->bv cJ:=λ(c,d,b,_)=>(GS (c,d,())).bind λ(aE,_)=>(bif aE !=0 then Y (aE,()) else(GQ (c,d,())).bind λ(h,_)=>(zw (h,b,())).bind λ(e,_)=>bif e !=0 then Y (e,()) else((loop (σ:=cJ) (ρ:=np) (λ(a,_)=>bw (br (a<ak b)) ((al b a).bind λi=>bw (br (ak i.2.2.1>64)) (Y (.inr (.inr (6,())))) (Y (.inl (aP a,())))) (Y (.inr (.inl ())))) (0,())).bind λf=>match f with
 |.inl _=>(Y (0,()))
 |.inr g=>Y g))
abbrev aA:Type:=ahc
abbrev jg:Type:=(aA×bt)
abbrev KO:Type:=(bA×jg)
abbrev eW:Type:=eo
abbrev cU:Type:=(bA×(KO×eW))
abbrev gm:Type:=(bm cU)
abbrev e1:Type:=(bm gm)
abbrev de:Type:=(aA×(Z×(e1×bt)))
abbrev dd:Type:=(aA×(aA×(aA×(aA×(aA×(aA×eW))))))
abbrev fD:Type:=ag8
abbrev c0:Type:=(aA×(Z×(fD×(e1×bt))))
abbrev hg:Type:=(aA×(aA×(aA×(bm aA×bt))))
abbrev v9:Type:=ej
abbrev oW:Type:=(Z×(Z×eW))
abbrev jr:Type:=en
abbrev eF:Type:=(aA×jg)
abbrev nl:Type:=(de×hg×de×hg×bt)
abbrev qJ:Type:=(Z×de×hg×de×hg×bt)
abbrev nm:Type:=(de×de×bt)
abbrev qK:Type:=(Z×(Z×(aA×eW)))
abbrev qL:Type:=(Z×dd×aA×dd×aA×aA×bt)
abbrev pK:Type:=(eW⊕(bt⊕(eW⊕(bt⊕jr))))
abbrev kS:Type:=(Z×(Z×(aA×eF)))
abbrev wa:Type:=(Z×dd×aA×dd×bt)
def Cl:(qK×bm (bv c0)×bt)->bv (aA×Z×bt):=λ(a,j,_)=>(loop (σ:=(Z×aA×bt)) (ρ:=jg) (λ(h,m,_)=>bw (br (h<ak j)) ((al j h).bind λi=>i.bind λt=>(loop (σ:=(Z×aA×bt)) (ρ:=jg) (λ(e,d,_)=>bw (br (e<t.2.1)) (bB (α:=jg) (i.bind λu=>(al u.2.2.1 e).bind λr=>bw r (i.bind λs=>(al s.1 e).bind λn=>(cG (d.length+([n]).length)).bind λ_=>Y ((d++[n]),())) (Y (d,()))) λ(o,_)=>Y (.inl (aP e,o,()))) (Y (.inr (d,())))) (0,m,())).bind λ(p,_)=>Y (.inl (aP h,p,()))) (Y (.inr (m,())))) (0,[],())).bind λ(q,_)=>(loop (σ:=(Z×aA×bt)) (ρ:=jg) (λ(b,f,_)=>bw (br (b<a.2.1)) ((cG (f.length+([b]).length)).bind λ_=>Y (.inl (aP b,(f++[b]),()))) (Y (.inr (f,())))) (a.1,q,())).bind λ(g,_)=>
 ((gy (ay (a.2.1-a.1))).bind λk=>(Y ((a.2.2.1).length)).bind λl=>(hb k l (a.2.2.1).length).map λ_=>(k,l)).bind λc=>(cG (g.length+(((a.2.2.1).take c.2).drop c.1).length)).bind λ_=>Y ((g++(((a.2.2.1).take c.2).drop c.1)),ak g,())
def Cc:(c0×bv c0×bt)->bv (c0×bt):=λ(H,c,_)=>c.bind λr=>(fX (ak r.1) (ak r.1)).bind λD=>c.bind λs=>(loop (σ:=(Z×c0×aA×bt)) (ρ:=(c0×aA×bt)) (λ(f,g,i,_)=>bw (br (f<ak s.1)) (bB (α:=(c0×aA×bt)) ((al s.1 f).bind λa0=>c.bind λN=>(al N.2.2.1 f).bind λO=>bw O ((zb (g.1,a0,())).bind λ(E,_)=>wr i f E λa3=>Y (g,a3,())) (Y (g,i,()))) λ(I,t,_)=>Y (.inl (aP f,I,t,()))) (Y (.inr (g,i,())))) (0,H,bJ D (0:Z),())).bind λ(J,l,_)=>(loop (σ:=(Z×c0×aA×bt)) (ρ:=(c0×bt)) (λ(d,q,m,_)=>bif br (d<ak l) then(loop (σ:=(Z×c0×aA×bt)) (ρ:=(c0×aA×bt)) (λ(e,k,h,_)=>bif br (e<ak m) then bB (α:=(c0×aA×bt)) (bB (α:=(bA×c0×aA×bt)) (c.bind λP=>(al P.2.2.1 d).bind λQ=>bif Q==bp then c.bind λR=>
 (al R.2.2.1 e).bind λS=>Y (S,k,h,()) else Y (bq,k,h,())) λ(G,a,b,_)=>bw G (rd b d λT=>(bj (a.2.2.2.1).length T).bind λj=>rd b e λU=>rd b d λV=>(bj (a.2.2.2.1).length V).bind λo=>rd b e λad=>((bb a.2.2.2.1 o λw=>Y w).bind λx=>bj x.length ad).bind λC=>(bb a.2.2.2.1 o λy=>bb y C λz=>Y z).bind λam=>c.bind λan=>(al an.2.2.2.1 d).bind λap=>(al ap e).bind λav=>(yM (am,av,())).bind λ(F,_)=>((bb a.2.2.2.1 j λA=>Y A).bind λB=>bj B.length U).bind λp=>(((((bb a.2.2.2.1 j λn=>(bb n p λ_=>Y (n.set p F)).map λa4=>(a.2.2.2.1).set j a4).map λbl=>(bl,a.2.2.2.2)).map λbs=>(a.2.2.1,bs)).map λbx=>(a.2.1,bx)).map λce=>(a.1,ce)).bind λci=>Y (ci,b,())) (Y (a,b,()))) λ(K,u,_)=>Y (.inl (aP e,K,u,())) else
 Y (.inr (k,h,()))) (0,q,m,())).bind λ(L,v,_)=>Y (.inl (aP d,L,v,())) else Y (.inr (q,()))) (0,J,l,())).bind λ(M,_)=>Y (M,())
def Ca:(bv (Z×((bm aA×bt)×(bm (bv (bm (Z×cU)×X))×bt)))×qK×bm (bv c0)×bt)->bv (c0×Z×bt):=λ(y,m,l,_)=>(Cl (m,l,())).bind λ(aE,a,_)=>(bif br (ak (((aE,(([]:aA),((0:Z),(([]:fD),(([]:e1),())))).2).1,(a,(aE,(([]:aA),((0:Z),(([]:fD),(([]:e1),())))).2).2.2)).1)>64) then bo else(fX (ak (((aE,(([]:aA),((0:Z),(([]:fD),(([]:e1),())))).2).1,(a,(aE,(([]:aA),((0:Z),(([]:fD),(([]:e1),())))).2).2.2)).1)) (ak (((aE,(([]:aA),((0:Z),(([]:fD),(([]:e1),())))).2).1,(a,(aE,(([]:aA),((0:Z),(([]:fD),(([]:e1),())))).2).2.2)).1))).bind λh=>(fX (ak (((aE,(([]:aA),((0:Z),(([]:fD),(([]:e1),())))).2).1,(a,(aE,(([]:aA),((0:Z),(([]:fD),(([]:e1),())))).2).2.2)).1)) (ak (((aE,(([]:aA),((0:Z),(([]:fD),(([]:e1),())))).2).1,(a,(aE,(([]:aA),((0:Z),(([]:fD),(([]:e1),())))).2).2.2)).1))).bind λA=>(loop (σ:=(Z×c0×bt)) (ρ:=(c0×bt)) (λ(i,c,_)=>
 bw (br (i<ak (((aE,(([]:aA),((0:Z),(([]:fD),(([]:e1),())))).2).1,(a,(aE,(([]:aA),((0:Z),(([]:fD),(([]:e1),())))).2).2.2)).1))) ((fX (ak (((aE,(([]:aA),((0:Z),(([]:fD),(([]:e1),())))).2).1,(a,(aE,(([]:aA),((0:Z),(([]:fD),(([]:e1),())))).2).2.2)).1)) (ak (((aE,(([]:aA),((0:Z),(([]:fD),(([]:e1),())))).2).1,(a,(aE,(([]:aA),((0:Z),(([]:fD),(([]:e1),())))).2).2.2)).1))).bind λz=>(bj (c.2.2.1).length i).bind λq=>((((bb c.2.2.1 q λ_=>Y ((c.2.2.1).set q bp)).map λL=>(L,c.2.2.2)).map λM=>(c.2.1,M)).map λN=>(c.1,N)).bind λd=>(bj (d.2.2.2.1).length i).bind λr=>(((((bb d.2.2.2.1 r λ_=>Y ((d.2.2.2.1).set r (bJ z (bq,((bq,(([]:ahc),())),((0:Z),())))))).map λO=>(O,d.2.2.2.2)).map λP=>(d.2.2.1,P)).map λQ=>(d.2.1,Q)).map λR=>(d.1,R)).bind λS=>Y (.inl (aP i,S,()))) (Y (.inr (c,())))) (0,((((aE,(([]:aA),((0:Z),(([]:fD),(([]:e1),())))).2).1,(a,(aE,(([]:aA),((0:Z),(([]:fD),(([]:e1),())))).2).2.2)).1,(((aE,(([]:aA),((0:Z),(([]:fD),(([]:e1),())))).2).1,(a,(aE,(([]:aA),((0:Z),(([]:fD),(([]:e1),())))).2).2.2)).2.1,(bJ h bq,((aE,(([]:aA),((0:Z),(([]:fD),(([]:e1),())))).2).1,(a,(aE,(([]:aA),((0:Z),(([]:fD),(([]:e1),())))).2).2.2)).2.2.2))).1,((((aE,(([]:aA),((0:Z),(([]:fD),(([]:e1),())))).2).1,(a,(aE,(([]:aA),((0:Z),(([]:fD),(([]:e1),())))).2).2.2)).1,(((aE,(([]:aA),((0:Z),(([]:fD),(([]:e1),())))).2).1,(a,(aE,(([]:aA),((0:Z),(([]:fD),(([]:e1),())))).2).2.2)).2.1,(bJ h bq,((aE,(([]:aA),((0:Z),(([]:fD),(([]:e1),())))).2).1,(a,(aE,(([]:aA),((0:Z),(([]:fD),(([]:e1),())))).2).2.2)).2.2.2))).2.1,((((aE,(([]:aA),((0:Z),(([]:fD),(([]:e1),())))).2).1,(a,(aE,(([]:aA),((0:Z),(([]:fD),(([]:e1),())))).2).2.2)).1,(((aE,(([]:aA),((0:Z),(([]:fD),(([]:e1),())))).2).1,(a,(aE,(([]:aA),((0:Z),(([]:fD),(([]:e1),())))).2).2.2)).2.1,(bJ h bq,((aE,(([]:aA),((0:Z),(([]:fD),(([]:e1),())))).2).1,(a,(aE,(([]:aA),((0:Z),(([]:fD),(([]:e1),())))).2).2.2)).2.2.2))).2.2.1,(bJ A [],(((aE,(([]:aA),((0:Z),(([]:fD),(([]:e1),())))).2).1,(a,(aE,(([]:aA),((0:Z),(([]:fD),(([]:e1),())))).2).2.2)).1,(((aE,(([]:aA),((0:Z),(([]:fD),(([]:e1),())))).2).1,(a,(aE,(([]:aA),((0:Z),(([]:fD),(([]:e1),())))).2).2.2)).2.1,(bJ h bq,((aE,(([]:aA),((0:Z),(([]:fD),(([]:e1),())))).2).1,(a,(aE,(([]:aA),((0:Z),(([]:fD),(([]:e1),())))).2).2.2)).2.2.2))).2.2.2.2)))),())).bind λ(D,_)=>
 (loop (σ:=(Z×c0×bt)) (ρ:=(c0×bt)) (λ(e,t,_)=>bif br (e<ak (((aE,(([]:aA),((0:Z),(([]:fD),(([]:e1),())))).2).1,(a,(aE,(([]:aA),((0:Z),(([]:fD),(([]:e1),())))).2).2.2)).1)) then(loop (σ:=(Z×c0×bt)) (ρ:=(c0×bt)) (λ(f,g,_)=>bif br (f<ak (((aE,(([]:aA),((0:Z),(([]:fD),(([]:e1),())))).2).1,(a,(aE,(([]:aA),((0:Z),(([]:fD),(([]:e1),())))).2).2.2)).1)) then bB (α:=(c0×bt)) (rd g.1 e λj=>rd g.1 f λk=>bB (α:=(bA×c0×bt)) (bw (br ((if k<j then k else j)>=m.1)==bp) (Y (br ((if k<j then k else j)<m.2.1),g,())) (Y (bq,g,()))) λ(C,b,_)=>bif C then(bj (b.2.2.2.1).length e).bind λn=>rd b.1 e λI=>rd b.1 f λJ=>(wY (y,I,J,())).bind λ(B,_)=>((bb b.2.2.2.1 n λv=>Y v).bind λw=>bj w.length f).bind λs=>(((((bb b.2.2.2.1 n λp=>(bb p s λ_=>Y (p.set s B)).map λT=>(b.2.2.2.1).set n T).map λU=>(U,b.2.2.2.2)).map λV=>(b.2.2.1,V)).map λad=>(b.2.1,ad)).map λam=>(b.1,am)).bind λan=>
 Y (an,()) else Y (b,())) λ(E,_)=>Y (.inl (aP f,E,())) else Y (.inr (g,()))) (0,t,())).bind λ(F,_)=>Y (.inl (aP e,F,())) else Y (.inr (t,()))) (0,D,())).bind λ(G,_)=>(loop (σ:=(Z×c0×bt)) (ρ:=(c0×bt)) (λ(o,u,_)=>bw (br (o<ak l)) ((al l o).bind λK=>(Cc (u,K,())).bind λ(x,_)=>Y (.inl (aP o,x,()))) (Y (.inr (u,())))) (0,G,())).bind λ(H,_)=>Y (H,0,()))
def Gi:(cU×bt)->bv ((bA×(KO×(Z×jr)))×bt):=λ(a,_)=>(uj (a.2.1,())).bind λ(b,_)=>Y ((a.2.1.1,(b,(a.2.2.1,(bq,())))),())
def BP:(cU×Z×bt)->bv eW:=λ(b,c,_)=>(wy (b,())).bind λ(a,_)=>(bw a.1 (Y (9221120237041090560,())) ((mX (a,())).bind λ(aE,_)=>bw (aE==0) (Y (0,())) ((Gi (a,())).bind λ(d,_)=>(yS (d,c,())).bind λ(e,_)=>Y (e,()))))
def sn:(bv c0×Z×Z×bt)->bv eW:=λ(d,a,b,_)=>d.bind λe=>(al e.2.2.2.1 a).bind λf=>(al f b).bind λg=>(BP (g,0,())).bind λ(c,_)=>Y (c,())
def BQ:jg->bv jr:=λ(b,_)=>(loop (σ:=eW) (ρ:=(bt⊕jr)) (λ(a,_)=>bw (br (a<ak b)) ((al b a).bind λe=>(BO (e,())).bind λ(aE,_)=>bw (aE==3) (Y (.inr (.inr (bp,())))) (Y (.inl (aP a,())))) (Y (.inr (.inl ())))) (0,())).bind λc=>match c with
 |.inl _=>(Y (bq,()))
 |.inr d=>Y d
def wB:eW->bv eW:=λ(a,_)=>(BQ ([a],())).bind λ(b,_)=>(bw b (Y (9221120237041090560,())) (Y (Bq bC a 9223372036854775808,())))
def y8:(bv c0×Z×bt)->bv (cU×Z×Z×bt):=λ(h,i,_)=>(qW (0,())).bind λ(t,_)=>h.bind λz=>(loop (σ:=(Z×Z×cU×cU×bt)) (ρ:=((Z×cU×cU×bt)⊕(cU×Z×Z×bt))) (λ(b,c,d,a,_)=>bif br (c<ak z.1) then(bB (α:=(Z×cU×cU×bt)⊕((Z×Z×cU×cU×bt)⊕((Z×cU×cU×bt)⊕(cU×Z×Z×bt)))) (h.bind λA=>(al A.2.2.1 c).bind λy=>bif !y then Y (.inl (b,d,a,())) else(sn (h,c,i,())).bind λ(g,_)=>(nz (g,())).bind λ(n,_)=>bif !n then Y (.inr (.inr (.inr (a,b,233,())))) else bif c==i then Y (.inl (b,d,a,())) else(wB (g,())).bind λ(o,_)=>(j2 (o,())).bind λ(p,_)=>(yN (p,a,())).bind λ(q,_,_)=>bB (α:=(bA×cU×cU×bt)) (bw (br (q>0)==bq) (Y (br (b<0),d,a,())) (Y (bp,d,a,()))) λ(w,j,k,_)=>
 bw w ((wB (g,())).bind λ(r,_)=>(j2 (r,())).bind λ(s,_)=>Y (.inl (c,j,s,()))) (Y (.inl (b,j,k,())))) λe=>match e with
 |.inl (u,x,l,_)=>(Y (.inl (u,aP c,x,l,())))
 |.inr f=>Y f) else Y (.inr (.inl (b,d,a,())))) ((-1:Z),0,(bq,((bq,(([]:ahc),())),((0:Z),()))),t,())).bind λe=>match e with
 |.inl (v,_,m,_)=>(Y (m,v,0,()))
 |.inr f=>Y f
def y5:(bv c0×Z×bt)->bv (cU×bt):=λ(d,a,_)=>(sn (d,a,a,())).bind λ(b,_)=>(wB (b,())).bind λ(aE,_)=>(j2 (aE,())).bind λ(c,_)=>Y (c,())
def wJ:(cU×cU×bt)->bv jr:=λ(a,b,_)=>(qW (64,())).bind λ(c,_)=>(ny (c,a,())).bind λ(aE,_)=>(qW (41,())).bind λ(d,_)=>(ny (d,b,())).bind λ(e,_)=>(yN (aE,e,())).bind λ(f,_,_)=>Y (br (f>=0),())
def Cd:(bv c0×bt)->bv (aA×Z×bt):=λ(b,_)=>b.bind λw=>(loop (σ:=eW) (ρ:=(bt⊕(aA×Z×bt))) (λ(a,_)=>bif br (a<w.2.1) then(bB (α:=bt⊕(eW⊕(bt⊕(aA×Z×bt)))) (b.bind λx=>(al x.2.2.1 a).bind λy=>bif !y then Y (.inl ()) else(y8 (b,a,())).bind λ(f,e,i,_)=>bif i !=0 then Y (.inr (.inr (.inr ([],i,())))) else((y5 (b,a,())).bind λ(g,_)=>bB (α:=(cU×cU×bt)⊕(bt⊕(eW⊕(bt⊕(aA×Z×bt))))) (bB (α:=(bA×cU×cU×bt)) ((mX (f,())).bind λ(o,_)=>bw ((o==0)==bq) ((wJ (g,f,())).bind λ(p,_)=>Y (p,f,g,())) (Y (bp,f,g,()))) λ(v,l,m,_)=>bw v (Y (.inr (.inr (.inr (.inr ([a],0,())))))) (Y (.inl (l,m,())))) λc=>match c with
 |.inl (h,n,_)=>(b.bind λz=>bw (br (e>=z.2.1)) (Y (.inl ())) ((y8 (b,e,())).bind λ(j,_,k,_)=>bw (k !=0) (Y (.inr (.inr (.inr ([],k,()))))) ((ny (n,j,())).bind λ(q,_)=>(ny (h,h,())).bind λ(r,_)=>(wJ (q,r,())).bind λ(s,_)=>bw s (Y (.inr (.inr (.inr ([a],0,()))))) ((y5 (b,e,())).bind λ(t,_)=>(wJ (t,j,())).bind λ(u,_)=>bw u (Y (.inr (.inr (.inr ([e],0,()))))) (Y (.inr (.inr (.inr ([a,e],0,())))))))))
 |.inr d=>Y d)) λc=>match c with
 |.inl _=>(Y (.inl (aP a,())))
 |.inr d=>Y d) else Y (.inr (.inl ()))) (0,())).bind λc=>match c with
 |.inl _=>(Y ([],0,()))
 |.inr d=>Y d
def y9:(bv c0×bt)->bv jg:=λ(c,_)=>c.bind λf=>(loop (σ:=(Z×aA×bt)) (ρ:=jg) (λ(a,b,_)=>bw (br (a<ak f.1)) (bB (α:=jg) (c.bind λg=>(al g.2.2.1 a).bind λh=>bw h ((cG (b.length+([a]).length)).bind λ_=>Y ((b++[a]),())) (Y (b,()))) λ(d,_)=>Y (.inl (aP a,d,()))) (Y (.inr (b,())))) (0,[],())).bind λ(e,_)=>Y (e,())
def o2:(gm×cU×bt)->bv (gm×bt):=λ(c,e,_)=>(loop (σ:=(Z×gm×bt)) (ρ:=(gm×bt)) (λ(b,a,_)=>bw (br (b<ak c)) ((al c b).bind λg=>(ny (g,e,())).bind λ(d,_)=>(cG (a.length+([d]).length)).bind λ_=>Y (.inl (aP b,(a++[d]),()))) (Y (.inr (a,())))) (0,[],())).bind λ(f,_)=>Y (f,())
def pW:(c0×aA×gm×gm×bt)->bv (c0×bt):=λ(w,b,u,v,_)=>(loop (σ:=(Z×c0×bt)) (ρ:=(c0×bt)) (λ(c,i,_)=>bif br (c<ak b) then(al b c).bind λk=>(loop (σ:=(Z×c0×bt)) (ρ:=(c0×bt)) (λ(d,a,_)=>bif br (d<ak b) then(al b d).bind λj=>(bj (a.2.2.2.1).length k).bind λe=>(bj (a.2.2.2.1).length k).bind λg=>((bb a.2.2.2.1 g λl=>Y l).bind λm=>bj m.length j).bind λr=>(bb a.2.2.2.1 g λn=>bb n r λo=>Y o).bind λz=>(al u c).bind λA=>(al v d).bind λB=>(ny (A,B,())).bind λ(s,_)=>(wz (z,s,())).bind λ(t,_)=>((bb a.2.2.2.1 e λp=>Y p).bind λq=>bj q.length j).bind λh=>(((((bb a.2.2.2.1 e λf=>(bb f h λ_=>Y (f.set h t)).map λC=>(a.2.2.2.1).set e C).map λD=>(D,a.2.2.2.2)).map λE=>(a.2.2.1,E)).map λF=>(a.2.1,F)).map λG=>(a.1,G)).bind λH=>
 Y (.inl (aP d,H,())) else Y (.inr (a,()))) (0,i,())).bind λ(x,_)=>Y (.inl (aP c,x,())) else Y (.inr (i,()))) (0,w,())).bind λ(y,_)=>Y (y,())
def Ci:eW->bv (cU×bt):=λ(_,_)=>(qW (0,())).bind λ(a,_)=>Y (a,())
def Gl:(bv c0×aA×bt×cU×bt)->bv (eF×gm×Z×bt):=λ(q,f,_,p,_)=>(loop (σ:=(Z×eF×eF×gm×bt)) (ρ:=((eF×eF×gm×bt)⊕(eF×gm×Z×bt))) (λ(e,h,a,d,_)=>bw (br (e<ak f)) ((al f e).bind λi=>(Ci (i,())).bind λ(n,_)=>(sj (n,p,0,())).bind λ(b,_)=>(nz (b,())).bind λ(o,_)=>bw (!o) (Y (.inr (.inr (a,[],233,())))) (q.bind λr=>(al r.1 i).bind λc=>(cG ((a.1).length+([c]).length)).bind λ_=>(cG ((a.2.1).length+([b]).length)).bind λ_=>(j2 (b,())).bind λ(g,_)=>(cG (d.length+([g]).length)).bind λ_=>Y (.inl (aP e,h,(((a.1++[c]),a.2).1,((((a.1++[c]),a.2).2.1++[b]),((a.1++[c]),a.2).2.2)),(d++[g]),())))) (Y (.inr (.inl (h,a,d,()))))) (0,([],([],())),([],([],())),[],())).bind λl=>match l with
 |.inl (_,j,k,_)=>(Y (j,k,0,()))
 |.inr m=>Y m
def Ch:(Z×bv (bv c0)×ag6×bt)->bv (cU×bt):=λ(a,b,c,_)=>b.bind λd=>d.bind λe=>(al e.2.2.2.1 a).bind λf=>c.bind λg=>(al f g).bind λh=>Y (h,())
def Gm:(bv c0×aA×(bv (bv c0)×ag6×bt)×cU×bt)->bv (eF×gm×Z×bt):=λ(r,f,g,q,_)=>(loop (σ:=(Z×eF×eF×gm×bt)) (ρ:=((eF×eF×gm×bt)⊕(eF×gm×Z×bt))) (λ(e,i,a,d,_)=>bw (br (e<ak f)) ((al f e).bind λj=>(Ch (j,g.1,g.2.1,())).bind λ(o,_)=>(sj (o,q,0,())).bind λ(b,_)=>(nz (b,())).bind λ(p,_)=>bw (!p) (Y (.inr (.inr (a,[],233,())))) (r.bind λs=>(al s.1 j).bind λc=>(cG ((a.1).length+([c]).length)).bind λ_=>(cG ((a.2.1).length+([b]).length)).bind λ_=>(j2 (b,())).bind λ(h,_)=>(cG (d.length+([h]).length)).bind λ_=>Y (.inl (aP e,i,(((a.1++[c]),a.2).1,((((a.1++[c]),a.2).2.1++[b]),((a.1++[c]),a.2).2.2)),(d++[h]),())))) (Y (.inr (.inl (i,a,d,()))))) (0,([],([],())),([],([],())),[],())).bind λm=>match m with
 |.inl (_,k,l,_)=>(Y (k,l,0,()))
 |.inr n=>Y n
def wI:(gm×bt)->bv (cU×bt):=λ(a,_)=>(al a 0).bind λd=>(al a 2).bind λe=>(ny (d,e,())).bind λ(aE,_)=>(al a 1).bind λf=>(al a 1).bind λg=>(ny (f,g,())).bind λ(b,_)=>(wz (aE,b,())).bind λ(c,_)=>Y (c,())
def uq:(Z×Z×bv aA×bv eF×bt)->bv eW:=λ(c,d,a,b,_)=>a.bind λi=>b.bind λj=>(al j.1 c).bind λk=>(al i k).bind λl=>a.bind λm=>b.bind λf=>(al f.1 d).bind λg=>(al m g).bind λh=>(uf (l,h,())).bind λ(e,_)=>Y (e,())
def Gz:(aA×Z×Z×(bv aA×bv eF×bt)×bt)->bv jg:=λ(i,e,h,f,_)=>(loop (σ:=(Z×aA×bt)) (ρ:=jg) (λ(d,g,_)=>bif br (d<h) then(loop (σ:=(Z×aA×bt)) (ρ:=jg) (λ(a,b,_)=>bB (α:=jg⊕((Z×aA×bt)⊕jg)) (bw (br (a>e)==bp) (rd b a λo=>rd b (ay (a-1)) λp=>(uq (o,p,f.1,f.2.1,())).bind λ(n,_)=>bw (br (n<0)) (Y (.inl (b,()))) (Y (.inr (.inr (b,()))))) (Y (.inr (.inr (b,()))))) λl=>match l with
 |.inl (c,_)=>(rd c (ay (a-1)) λq=>rd c a λr=>wr c a q λs=>wr s (ay (a-1)) r λt=>Y (.inl (ay (a-1),t,())))
 |.inr m=>Y m) (d,g,())).bind λ(j,_)=>Y (.inl (aP d,j,())) else Y (.inr (g,()))) (aP e,i,())).bind λ(k,_)=>Y (k,())
def CI:(aA×Z×Z×Z×(bv aA×bv eF×bt)×bt)->bv jg:=λ(f,d,e,h,c,_)=>(loop (σ:=(Z×Z×Z×bA×bA×aA×bt)) (ρ:=jg) (λ(a,b,_,_,_,g,_)=>bw (br (ay (b-a)<=12)) ((Gz (g,a,b,(c.1,c.2.1,()),())).bind λ(i,_)=>Y (.inr (i,()))) bo) (d,e,h,bp,bp,f,())).bind Y
def CF:(aA×(bv aA×bv eF×bt)×bt)->bv jg:=λ(a,b,_)=>(Cp (aJ (ak a),())).bind λ(d,_)=>(CI (a,0,ak a,d,(b.1,b.2.1,()),())).bind λ(c,_)=>Y (c,())
def Cn:(bv (bv (Z×((bm aA×bt)×(bm (bv (bm (Z×cU)×X))×bt)))×(aA×(aA×(aA×(bm eF×eW)))))×aA×bt)->bv (dd×bt):=λ(d,j,_)=>(fX (ak j) (ak j)).bind λP=>d.bind λT=>d.bind λU=>d.bind λad=>d.bind λH=>(loop (σ:=wa) (ρ:=(dd×aA×dd×bt)) (λ(g,B,t,e,_)=>bw (br (g<ak H.2.1)) ((al H.2.1 g).bind λC=>wr t C g λam=>(al j C).bind λD=>(cG ((e.1).length+([D]).length)).bind λ_=>Y (.inl (aP g,B,am,((e.1++[D]),e.2),()))) (Y (.inr (B,t,e,())))) (0,([],([],([],([],([],([],((0:Z),()))))))),bJ P (0:Z),(([]:aA),(T.2.2.1,(U.2.2.2.1,([0],(([]:aA),(([]:aA),(ad.2.2.2.2.2.1,()))))))),())).bind λ(Q,M,J,_)=>d.bind λE=>(loop (σ:=wa) (ρ:=(dd×dd×bt)) (λ(k,y,N,r,_)=>bif br (k<ak E.2.2.2.2.1) then(al E.2.2.2.2.1 k).bind λm=>(fX (ak m.1) (ak m.1)).bind λx=>
 (loop (σ:=(Z×dd×aA×dd×eF×aA×bt)) (ρ:=(dd×aA×dd×eF×aA×bt)) (λ(f,z,u,s,p,n,_)=>bw (br (f<ak (bJ x (0:Z)))) (wr n f f λan=>Y (.inl (aP f,z,u,s,p,an,()))) (Y (.inr (z,u,s,p,n,())))) (0,y,N,r,m,bJ x (0:Z),())).bind λ(R,v,K,q,I,_)=>(CF (I,(Y v,Y q,()),())).bind λ(w,_)=>(loop (σ:=(Z×dd×aA×dd×eF×aA×bt)) (ρ:=(dd×aA×dd×bt)) (λ(l,A,i,a,h,o,_)=>bif br (l<ak w) then rd o l λF=>(al h.1 F).bind λV=>rd i V λb=>(cG ((a.2.2.2.2.1).length+([b]).length)).bind λ_=>(al h.2.1 F).bind λG=>(cG (((a.1,(a.2.1,(a.2.2.1,(a.2.2.2.1,((a.2.2.2.2.1++[b]),a.2.2.2.2.2))))).2.2.2.2.2.1).length+([G]).length)).bind λ_=>Y (.inl (aP l,A,i,((a.1,(a.2.1,(a.2.2.1,(a.2.2.2.1,((a.2.2.2.2.1++[b]),a.2.2.2.2.2))))).1,((a.1,(a.2.1,(a.2.2.1,(a.2.2.2.1,((a.2.2.2.2.1++[b]),a.2.2.2.2.2))))).2.1,((a.1,(a.2.1,(a.2.2.1,(a.2.2.2.1,((a.2.2.2.2.1++[b]),a.2.2.2.2.2))))).2.2.1,((a.1,(a.2.1,(a.2.2.1,(a.2.2.2.1,((a.2.2.2.2.1++[b]),a.2.2.2.2.2))))).2.2.2.1,((a.1,(a.2.1,(a.2.2.1,(a.2.2.2.1,((a.2.2.2.2.1++[b]),a.2.2.2.2.2))))).2.2.2.2.1,(((a.1,(a.2.1,(a.2.2.1,(a.2.2.2.1,((a.2.2.2.2.1++[b]),a.2.2.2.2.2))))).2.2.2.2.2.1++[G]),(a.1,(a.2.1,(a.2.2.1,(a.2.2.2.1,((a.2.2.2.2.1++[b]),a.2.2.2.2.2))))).2.2.2.2.2.2)))))),h,o,())) else
 Y (.inr (A,i,a,()))) (0,R,v,K,q,w,())).bind λ(S,O,c,_)=>(cG ((c.2.2.2.1).length+([ak c.2.2.2.2.1]).length)).bind λ_=>Y (.inl (aP k,S,O,(c.1,(c.2.1,(c.2.2.1,((c.2.2.2.1++[ak c.2.2.2.2.1]),c.2.2.2.2)))),())) else Y (.inr (y,r,()))) (0,Q,M,J,())).bind λ(_,L,_)=>Y (L,())
def B8:(qK×bt)->bv jr:=λ(a,_)=>Y (br (ak a.2.2.1>64),())
def CC:(bm qK×bt×bt)->bv eW:=λ(b,_,_)=>(loop (σ:=eW) (ρ:=(bt⊕eW)) (λ(a,_)=>bw (br (a<ak b)) ((al b a).bind λf=>(B8 (f,())).bind λ(e,_)=>bw e (Y (.inr (.inr (a,())))) (Y (.inl (aP a,())))) (Y (.inr (.inl ())))) (0,())).bind λc=>match c with
 |.inl _=>(Y ((-1:Z),()))
 |.inr d=>Y d
def CA:(bm qK×bt×bt)->bv jr:=λ(b,_,_)=>(CC (b,(),())).bind λ(a,_)=>Y (br (a>=0),())
def sy:(aA×Z×bt)->bv eW:=λ(b,c,_)=>(loop (σ:=eW) (ρ:=(bt⊕eW)) (λ(a,_)=>bw (br (a<ak b)) ((al b a).bind λf=>bw (f==c) (Y (.inr (.inr (a,())))) (Y (.inl (aP a,())))) (Y (.inr (.inl ())))) (0,())).bind λd=>match d with
 |.inl _=>(Y ((-1:Z),()))
 |.inr e=>Y e
def GU:(kS×aA×bm qK×Z×bm de×bt)->bv (de×bt):=λ(an,ci,c,b,y,_)=>(loop (σ:=(Z×de×de×bt)) (ρ:=nm) (λ(g,B,m,_)=>bw (br (g<b)) (bB (α:=nm) ((al c g).bind λgf=>bw (gf.2.2.2.1==b) ((al y g).bind λF=>(al y g).bind λft=>((Y (0)).bind λL=>(gy ft.2.1).bind λM=>(hb L M (F.1).length).map λ_=>(L,M)).bind λs=>(cG ((m.1).length+(((F.1).take s.2).drop s.1).length)).bind λ_=>Y (B,((m.1++(((F.1).take s.2).drop s.1)),m.2),())) (Y (B,m,()))) λ(dl,el,_)=>Y (.inl (aP g,dl,el,()))) (Y (.inr (B,m,())))) (0,([],((0:Z),([],()))),([],((0:Z),([],()))),())).bind λ(ds,em,_)=>(al c b).bind λfT=>(loop (σ:=(Z×de×de×bt)) (ρ:=nm) (λ(q,Q,t,_)=>(al c b).bind λf0=>bif br (q<f0.2.1) then(cG ((t.1).length+([q]).length)).bind λ_=>Y (.inl (aP q,Q,((t.1++[q]),t.2),())) else
 Y (.inr (Q,t,()))) (fT.1,ds,em,())).bind λ(d0,D,_)=>(loop (σ:=(Z×de×de×bt)) (ρ:=nm) (λ(o,z,j,_)=>(al c b).bind λf1=>bw (br (o<ak f1.2.2.1)) (bB (α:=nm) ((al c b).bind λf2=>(al f2.2.2.1 o).bind λf3=>(al c b).bind λf4=>bw (br (f3>=f4.2.1)) ((al c b).bind λf5=>(al f5.2.2.1 o).bind λad=>(cG ((j.1).length+([ad]).length)).bind λ_=>Y (z,((j.1++[ad]),j.2),())) (Y (z,j,()))) λ(d1,eq,_)=>Y (.inl (aP o,d1,eq,()))) (Y (.inr (z,j,())))) (0,d0,(D.1,(ak D.1,D.2.2)),())).bind λ(d2,k,_)=>(loop (σ:=(Z×de×de×bt)) (ρ:=nm) (λ(h,R,e,_)=>bif br (h<ak k.1) then(fX (ak k.1) (ak k.1)).bind λN=>(cG ((e.2.2.1).length+([bJ N (bq,((bq,(([]:ahc),())),((0:Z),())))]).length)).bind λ_=>(loop (σ:=(Z×de×de×bt)) (ρ:=nm) (λ(i,A,l,_)=>bif br (i<ak k.1) then
 bB (α:=nm) (rd l.1 h λu=>rd l.1 i λv=>bB (α:=(bA×de×de×bt)) ((al c b).bind λf6=>bw (br ((if v<u then v else u)>=f6.1)==bp) ((al c b).bind λf7=>Y (br ((if v<u then v else u)<f7.2.1),A,l,())) (Y (bq,A,l,()))) λ(d3,S,d,_)=>bw d3 ((bj (d.2.2.1).length h).bind λw=>rd d.1 h λf8=>rd d.1 i λf9=>(zy (an,ci,f8,f9,())).bind λ(cs,_)=>((bb d.2.2.1 w λbs=>Y bs).bind λbx=>bj bx.length i).bind λK=>((((bb d.2.2.1 w λH=>(bb H K λ_=>Y (H.set K cs)).map λhs=>(d.2.2.1).set w hs).map λhv=>(hv,d.2.2.2)).map λhw=>(d.2.1,hw)).map λib=>(d.1,ib)).bind λic=>Y (S,ic,())) (Y (S,d,()))) λ(d4,ex,_)=>Y (.inl (aP i,d4,ex,())) else Y (.inr (A,l,()))) (0,R,(e.1,(e.2.1,((e.2.2.1++[bJ N (bq,((bq,(([]:ahc),())),((0:Z),())))]),e.2.2.2))),())).bind λ(d5,fl,_)=>
 Y (.inl (aP h,d5,fl,())) else Y (.inr (R,e,()))) (0,d2,k,())).bind λ(d6,fn,_)=>(loop (σ:=(Z×de×de×bt)) (ρ:=nm) (λ(n,C,E,_)=>bif br (n<b) then bB (α:=nm) ((al c n).bind λgc=>bif gc.2.2.2.1 !=b then Y (C,E,()) else(al y n).bind λge=>(loop (σ:=(Z×de×de×de×bt)) (ρ:=nm) (λ(p,T,V,am,_)=>bif br (p<ak am.1) then(loop (σ:=(Z×de×de×de×bt)) (ρ:=(de×de×de×bt)) (λ(r,U,a,f,_)=>bif br (r<ak f.1) then(al f.1 p).bind λgi=>(sy (a.1,gi,())).bind λ(O,_)=>(al f.1 r).bind λgl=>(sy (a.1,gl,())).bind λ(P,_)=>(bj (a.2.2.1).length O).bind λx=>(bj (a.2.2.1).length O).bind λI=>((bb a.2.2.1 I λap=>Y ap).bind λav=>bj av.length P).bind λce=>(bb a.2.2.1 I λa0=>bb a0 ce λa3=>Y a3).bind λfp=>(al f.2.2.1 p).bind λfs=>(al fs r).bind λfz=>
 (ss (fp,fz,())).bind λ(co,_)=>((bb a.2.2.1 x λa4=>Y a4).bind λbl=>bj bl.length P).bind λJ=>((((bb a.2.2.1 x λG=>(bb G J λ_=>Y (G.set J co)).map λgs=>(a.2.2.1).set x gs).map λgt=>(gt,a.2.2.2)).map λhc=>(a.2.1,hc)).map λhi=>(a.1,hi)).bind λhr=>Y (.inl (aP r,U,hr,f,())) else Y (.inr (U,a,f,()))) (0,T,V,am,())).bind λ(cv,d7,go,_)=>Y (.inl (aP p,cv,d7,go,())) else Y (.inr (T,V,()))) (0,C,E,ge,())).bind λ(c1,d8,_)=>Y (c1,d8,())) λ(c2,d9,_)=>Y (.inl (aP n,c2,d9,())) else Y (.inr (C,E,()))) (0,d6,fn,())).bind λ(_,ek,_)=>Y (ek,())
def wV:(cU×bt)->bv eW:=λ(a,_)=>(zl (a,0,())).bind λ(b,_)=>Y (b,())
def C9:(de×Z×bt)->bv (gm×bA×bt):=λ(e,f,_)=>(loop (σ:=(Z×gm×bt)) (ρ:=((gm×bt)⊕(gm×bA×bt))) (λ(a,b,_)=>bw (br (a<ak e.1)) ((al e.2.2.1 a).bind λl=>(al l f).bind λm=>(wV (m,())).bind λ(c,_)=>(pY (c,())).bind λ(i,_)=>bw (!i) (Y (.inr (.inr ([],bq,())))) ((j3 (c,())).bind λ(j,_)=>(GJ (j,())).bind λ(d,_)=>(cG (b.length+([d]).length)).bind λ_=>Y (.inl (aP a,(b++[d]),())))) (Y (.inr (.inl (b,()))))) (0,[],())).bind λg=>match g with
 |.inl (k,_)=>(Y (k,bp,()))
 |.inr h=>Y h
def zA:(gm×Z×bt)->bv (cU×Z×bt):=λ(e,l,_)=>(loop (σ:=(Z×Z×cU×cU×bt)) (ρ:=(Z×cU×cU×bt)) (λ(d,a,c,b,_)=>bw (br (a<ak e)) (bB (α:=(Z×cU×cU×bt)) (bB (α:=(bA×cU×cU×bt)) (bw ((a !=l)==bp) (bw (br (d<0)==bq) ((al e a).bind λq=>(C4 (b,q,())).bind λ(m,_)=>Y (m,c,b,())) (Y (bp,c,b,()))) (Y (bq,c,b,()))) λ(o,f,i,_)=>bw o ((al e a).bind λp=>Y (a,f,p,())) (Y (d,f,i,()))) λ(g,n,j,_)=>Y (.inl (g,aP a,n,j,()))) (Y (.inr (d,c,b,())))) ((-1:Z),0,(bq,((bq,(([]:ahc),())),((0:Z),()))),(bq,((bq,(([]:ahc),())),((0:Z),()))),())).bind λ(h,_,k,_)=>Y (k,h,())
def zB:(cU×cU×bt)->bv jr:=λ(a,b,_)=>(wS (64,())).bind λ(c,_)=>(kD (c,a,())).bind λ(aE,_)=>(wS (41,())).bind λ(d,_)=>(kD (d,b,())).bind λ(e,_)=>(C4 (aE,e,())).bind λ(f,_)=>Y ((!f),())
def C8:(de×bt)->bv (aA×bA×bt):=λ(f,_)=>(loop (σ:=eW) (ρ:=(bt⊕(aA×bA×bt))) (λ(a,_)=>bif br (a<f.2.1) then(bB (α:=bt⊕(eW⊕(bt⊕(aA×bA×bt)))) ((C9 (f,a,())).bind λ(g,l,_)=>bif !l then Y (.inr (.inr (.inr ([],bq,())))) else((zA (g,a,())).bind λ(e,b,_)=>bB (α:=(cU×bt)⊕(bt⊕(eW⊕(bt⊕(aA×bA×bt))))) (bB (α:=(bA×cU×bt)) ((wT (e,())).bind λ(m,_)=>bw ((m==0)==bq) ((al g a).bind λu=>(zB (u,e,())).bind λ(n,_)=>Y (n,e,())) (Y (bp,e,()))) λ(t,k,_)=>bw t (Y (.inr (.inr (.inr (.inr ([a],bp,())))))) (Y (.inl (k,())))) λc=>match c with
 |.inl (h,_)=>(bw (br (b>=f.2.1)) (Y (.inl ())) ((C9 (f,b,())).bind λ(i,o,_)=>bw (!o) (Y (.inr (.inr (.inr ([],bq,()))))) ((zA (i,b,())).bind λ(j,_,_)=>(al g a).bind λv=>(kD (v,j,())).bind λ(p,_)=>(kD (h,h,())).bind λ(q,_)=>(zB (p,q,())).bind λ(r,_)=>bw r (Y (.inr (.inr (.inr ([a],bp,()))))) ((al i b).bind λw=>(zB (w,j,())).bind λ(s,_)=>bw s (Y (.inr (.inr (.inr ([b],bp,()))))) (Y (.inr (.inr (.inr ([a,b],bp,())))))))))
 |.inr d=>Y d)) λc=>match c with
 |.inl _=>(Y (.inl (aP a,())))
 |.inr d=>Y d) else Y (.inr (.inl ()))) (0,())).bind λc=>match c with
 |.inl _=>(Y ([],bp,()))
 |.inr d=>Y d
def GW:(de×aA×bt)->bv (de×bt):=λ(b,g,_)=>(loop (σ:=(Z×de×de×bt)) (ρ:=nm) (λ(a,h,d,_)=>bif br (a<ak b.1) then bB (α:=nm) ((sy (g,a,())).bind λ(o,_)=>bif br (o>=0) then Y (h,d,()) else(al b.1 a).bind λm=>(cG ((d.1).length+([m]).length)).bind λ_=>(loop (σ:=(Z×de×de×gm×bt)) (ρ:=(de×de×gm×bt)) (λ(e,i,j,f,_)=>bw (br (e<ak b.1)) (bB (α:=(de×de×gm×bt)) ((sy (g,e,())).bind λ(n,_)=>bw (br (n<0)) ((al b.2.2.1 a).bind λt=>(al t e).bind λl=>(cG (f.length+([l]).length)).bind λ_=>Y (i,j,(f++[l]),())) (Y (i,j,f,()))) λ(q,u,p,_)=>Y (.inl (aP e,q,u,p,()))) (Y (.inr (i,j,f,())))) (0,h,((d.1++[m]),d.2),[],())).bind λ(r,c,k,_)=>(cG ((c.2.2.1).length+([k]).length)).bind λ_=>
 Y (r,(c.1,(c.2.1,((c.2.2.1++[k]),c.2.2.2))),())) λ(s,v,_)=>Y (.inl (aP a,s,v,())) else Y (.inr (h,d,()))) (0,([],((0:Z),([],()))),(([]:aA),(ay (b.2.1-ak g),(([]:e1),()))),())).bind λ(_,w,_)=>Y (w,())
def C6:jg->bv (cU×bt):=λ(a,_)=>(al a 0).bind λd=>(al a 2).bind λe=>(C5 (d,e,())).bind λ(aE,_)=>(al a 1).bind λf=>(al a 1).bind λg=>(C5 (f,g,())).bind λ(b,_)=>(su (aE,b,())).bind λ(c,_)=>Y (c,())
def wX:(hg×de×aA×Z×bt)->bv jg:=λ(a,f,b,d,_)=>(al f.2.2.1 d).bind λC=>(al b 0).bind λD=>(al C D).bind λc=>(bif ak b==1 then(al a.2.1 0).bind λE=>(GO (E,())).bind λ(v,_)=>bw v (Y ([0],())) ((al a.2.1 0).bind λw=>(j3 (w,())).bind λ(h,_)=>(zx (c,h,())).bind λ(i,_)=>Y ([i],())) else(al f.2.2.1 d).bind λx=>(al b 1).bind λy=>(al x y).bind λg=>(al a.2.1 0).bind λz=>(j3 (z,())).bind λ(j,_)=>(al a.2.1 1).bind λA=>(j3 (A,())).bind λ(e,_)=>(al a.2.1 2).bind λB=>(j3 (B,())).bind λ(k,_)=>(kD (c,k,())).bind λ(l,_)=>(kD (g,e,())).bind λ(m,_)=>(su (l,m,())).bind λ(n,_)=>(kD (g,j,())).bind λ(o,_)=>(kD (c,e,())).bind λ(p,_)=>(su (o,p,())).bind λ(q,_)=>
 (C6 (a.2.1,())).bind λ(r,_)=>(zx (n,r,())).bind λ(s,_)=>(C6 (a.2.1,())).bind λ(t,_)=>(zx (q,t,())).bind λ(u,_)=>Y ([s,u],()))
def wW:(hg×Z×Z×bt)->bv (cU×bt):=λ(a,b,c,_)=>(al a.2.2.2.1 0).bind λD=>(al D b).bind λE=>(j3 (E,())).bind λ(h,_)=>(al a.2.2.2.1 0).bind λF=>(al F c).bind λG=>(j3 (G,())).bind λ(i,_)=>(al a.2.1 0).bind λw=>(j3 (w,())).bind λ(j,_)=>(kD (h,j,())).bind λ(k,_)=>(kD (k,i,())).bind λ(d,_)=>bB (α:=(cU×cU×bt)) (bif ak a.1==2 then(al a.2.2.2.1 1).bind λx=>(al x b).bind λy=>(j3 (y,())).bind λ(e,_)=>(al a.2.2.2.1 1).bind λz=>(al z c).bind λA=>(j3 (A,())).bind λ(f,_)=>(al a.2.1 1).bind λB=>(j3 (B,())).bind λ(g,_)=>(al a.2.1 2).bind λC=>(j3 (C,())).bind λ(l,_)=>(kD (h,g,())).bind λ(m,_)=>(kD (m,f,())).bind λ(n,_)=>(ss (d,n,())).bind λ(o,_)=>(kD (e,g,())).bind λ(p,_)=>
 (kD (p,i,())).bind λ(q,_)=>(ss (o,q,())).bind λ(r,_)=>(kD (e,l,())).bind λ(s,_)=>(kD (s,f,())).bind λ(t,_)=>(ss (r,t,())).bind λ(u,_)=>Y ((bq,((bq,(([]:ahc),())),((0:Z),()))),u,()) else Y ((bq,((bq,(([]:ahc),())),((0:Z),()))),d,())) λ(_,v,_)=>Y (v,())
def zz:(de×aA×bt)->bv (de×hg×bA×bt):=λ(f,b,_)=>(GW (f,b,())).bind λ(G,_)=>(loop (σ:=qJ) (ρ:=nl) (λ(r,L,M,T,a,_)=>bw (br (r<ak b)) ((al b r).bind λf0=>(al f.1 f0).bind λg=>(cG ((a.1).length+([g]).length)).bind λ_=>(cG ((((a.1++[g]),a.2).2.2.2.1).length+([([]:aA)]).length)).bind λ_=>Y (.inl (aP r,L,M,T,(((a.1++[g]),a.2).1,(((a.1++[g]),a.2).2.1,(((a.1++[g]),a.2).2.2.1,((((a.1++[g]),a.2).2.2.2.1++[([]:aA)]),((a.1++[g]),a.2).2.2.2.2)))),()))) (Y (.inr (L,M,T,a,())))) (0,([],((0:Z),([],()))),([],([],([],([],())))),G,(([]:aA),(([]:aA),(G.1,(([]:bm aA),())))),())).bind λ(H,I,S,e,_)=>(al b 0).bind λd9=>(al f.2.2.1 d9).bind λek=>(al b 0).bind λel=>(al ek el).bind λem=>(wV (em,())).bind λ(m,_)=>bB (α:=nl) (bif ak b==2 then(al b 1).bind λeq=>
 (al f.2.2.1 eq).bind λex=>(al b 0).bind λfl=>(al ex fl).bind λfn=>(wV (fn,())).bind λ(E,_)=>(al b 1).bind λfp=>(al f.2.2.1 fp).bind λfs=>(al b 1).bind λft=>(al fs ft).bind λfz=>(wV (fz,())).bind λ(F,_)=>(cG (((e.1,([m],e.2.2)).2.1).length+([E,F]).length)).bind λ_=>Y (H,I,S,((e.1,([m],e.2.2)).1,(((e.1,([m],e.2.2)).2.1++[E,F]),(e.1,([m],e.2.2)).2.2)),()) else Y (H,I,S,(e.1,([m],e.2.2)),())) λ(ds,d0,f4,bs,_)=>(loop (σ:=qJ) (ρ:=(nl⊕(de×hg×bA×bt))) (λ(n,u,v,w,p,_)=>bif br (n<ak f.1) then(bB (α:=nl⊕(qJ⊕(nl⊕(de×hg×bA×bt)))) ((sy (b,n,())).bind λ(co,_)=>bif br (co>=0) then Y (.inl (u,v,w,p,())) else((wX (p,f,b,n,())).bind λ(t,_)=>(loop (σ:=qJ) (ρ:=(nl⊕(nl⊕(qJ⊕(nl⊕(de×hg×bA×bt)))))) (λ(h,J,K,x,c,_)=>
  bw (br (h<ak t)) ((al t h).bind λfT=>(pY (fT,())).bind λ(cs,_)=>bw (!cs) (Y (.inr (.inr (.inr (.inr (.inr (x,c,bq,()))))))) ((bj (c.2.2.2.1).length h).bind λA=>(al t h).bind λR=>(bb c.2.2.2.1 A λU=>Y U).bind λd7=>(cG (d7.length+([R]).length)).bind λ_=>(bj (c.2.2.2.1).length h).bind λo=>bw (bI A o&&bp) ((bb c.2.2.2.1 o λV=>Y V).bind λd8=>(((((bb c.2.2.2.1 o λ_=>Y ((c.2.2.2.1).set o (d8++[R]))).map λgi=>(gi,c.2.2.2.2)).map λgl=>(c.2.2.1,gl)).map λgo=>(c.2.1,go)).map λgs=>(c.1,gs)).bind λgt=>Y (.inl (aP h,J,K,x,gt,()))) bo)) (Y (.inr (.inl (J,K,x,c,()))))) (0,u,v,w,p,())).bind λk=>match k with
 |.inl (d1,d2,f5,bx,_)=>(Y (.inl (d1,d2,f5,bx,())))
 |.inr l=>Y l)) λk=>match k with
 |.inl (d3,d4,f6,ce,_)=>(Y (.inl (aP n,d3,d4,f6,ce,())))
 |.inr l=>Y l) else Y (.inr (.inl (u,v,w,p,())))) (0,ds,d0,f4,bs,())).bind λk=>match k with
 |.inl (d5,d6,f7,ci,_)=>((loop (σ:=qJ) (ρ:=nl) (λ(i,N,O,y,D,_)=>bif br (i<ak y.1) then(loop (σ:=qJ) (ρ:=nl) (λ(j,P,Q,d,s,_)=>bw (br (j<ak d.1)) ((bj (d.2.2.1).length i).bind λq=>(bj (d.2.2.1).length i).bind λB=>((bb d.2.2.1 B λad=>Y ad).bind λam=>bj am.length j).bind λa3=>(bb d.2.2.1 B λan=>bb an a3 λap=>Y ap).bind λf1=>(wW (s,i,j,())).bind λ(cv,_)=>(su (f1,cv,())).bind λ(c1,_)=>((bb d.2.2.1 q λav=>Y av).bind λa0=>bj a0.length j).bind λC=>((((bb d.2.2.1 q λz=>(bb z C λ_=>Y (z.set C c1)).map λf8=>(d.2.2.1).set q f8).map λf9=>(f9,d.2.2.2)).map λgc=>(d.2.1,gc)).map λge=>(d.1,ge)).bind λgf=>Y (.inl (aP j,P,Q,gf,s,()))) (Y (.inr (P,Q,d,s,())))) (0,N,O,y,D,())).bind λ(c2,dl,f2,a4,_)=>
 Y (.inl (aP i,c2,dl,f2,a4,())) else Y (.inr (N,O,y,D,()))) (0,d5,d6,f7,ci,())).bind λ(_,_,f3,bl,_)=>Y (f3,bl,bp,()))
 |.inr l=>Y l
def GV:(aA×bm hg×Z×bt)->bv (dd×bt):=λ(z,e,a0,_)=>(fX (ak z) (ak z)).bind λds=>(loop (σ:=wa) (ρ:=(dd×aA×dd×bt)) (λ(j,ad,I,G,_)=>bif br (j<ak e) then(loop (σ:=wa) (ρ:=(dd×aA×dd×bt)) (λ(r,am,J,n,_)=>(al e j).bind λfn=>bw (br (r<ak fn.1)) ((al e j).bind λfp=>(al fp.1 r).bind λfs=>wr J fs (ak n.1) λfT=>(al e j).bind λft=>(al ft.1 r).bind λfz=>(al z fz).bind λap=>(cG ((n.1).length+([ap]).length)).bind λ_=>Y (.inl (aP r,am,fT,((n.1++[ap]),n.2),()))) (Y (.inr (am,J,n,())))) (0,ad,I,G,())).bind λ(d6,c1,c,_)=>(al e j).bind λl=>(cG ((c.2.1).length+([ak l.1]).length)).bind λ_=>(al e j).bind λav=>(cG (((c.1,((c.2.1++[ak l.1]),c.2.2)).2.2.1).length+(av.2.1).length)).bind λ_=>Y (.inl (aP j,d6,c1,((c.1,((c.2.1++[ak l.1]),c.2.2)).1,((c.1,((c.2.1++[ak l.1]),c.2.2)).2.1,(((c.1,((c.2.1++[ak l.1]),c.2.2)).2.2.1++av.2.1),(c.1,((c.2.1++[ak l.1]),c.2.2)).2.2.2))),())) else
 Y (.inr (ad,I,G,()))) (0,([],([],([],([],([],([],((0:Z),()))))))),bJ ds (0:Z),(([]:aA),(([]:aA),(([]:aA),([0],(([]:aA),(([]:aA),(a0,()))))))),())).bind λ(d7,c2,bx,_)=>(loop (σ:=wa) (ρ:=(dd×dd×bt)) (λ(k,T,ce,D,_)=>bif br (k<ak e) then(loop (σ:=wa) (ρ:=(dd×aA×dd×bt)) (λ(y,U,H,E,_)=>(al e k).bind λd9=>bif br (y<ak d9.1) then(loop (σ:=qL) (ρ:=(dd×aA×dd×aA×aA×bt)) (λ(q,V,w,F,K,an,_)=>(al e k).bind λek=>bif br (q<ak ek.2.2.1) then(al e k).bind λel=>(al el.2.2.1 q).bind λem=>rd w em λu=>(loop (σ:=qL) (ρ:=qL) (λ(m,A,x,v,o,B,_)=>bB (α:=(dd×aA×dd×aA×aA×bt)⊕(qL⊕qL)) (bif br (m<ak o)==bp then rd o m λeq=>bif br (eq<u) then Y (.inl (A,x,v,o,B,())) else
 Y (.inr (.inr (m,A,x,v,o,B,()))) else Y (.inr (.inr (m,A,x,v,o,B,())))) λd0=>match d0 with
 |.inl (d2,ci,a3,dl,d8,_)=>(Y (.inl (aP m,d2,ci,a3,dl,d8,())))
 |.inr d1=>Y d1) (0,V,w,F,K,an,())).bind λ(p,d3,co,a4,d,f,_)=>((Y (0)).bind λL=>(gy p).bind λM=>(hb L M d.length).bind λ_=>(nL d.length).map λ_=>(L,M)).bind λh=>(cG (([]:aA).length+((d.take h.2).drop h.1).length)).bind λ_=>(cG (([]++((d.take h.2).drop h.1)).length+([u]).length)).bind λ_=>((gy p).bind λN=>(Y d.length).bind λO=>(hb N O d.length).bind λ_=>(nL d.length).map λ_=>(N,O)).bind λs=>(cG ((([]++((d.take h.2).drop h.1))++[u]).length+((d.take s.2).drop s.1).length)).bind λ_=>((Y (0)).bind λP=>(gy p).bind λQ=>(hb P Q f.length).bind λ_=>(nL f.length).map λ_=>(P,Q)).bind λi=>(cG (([]:aA).length+((f.take i.2).drop i.1).length)).bind λ_=>(al e k).bind λex=>(al ex.2.2.2.1 y).bind λfl=>(al fl q).bind λC=>
 (cG (([]++((f.take i.2).drop i.1)).length+([C]).length)).bind λ_=>((gy p).bind λR=>(Y f.length).bind λS=>(hb R S f.length).bind λ_=>(nL f.length).map λ_=>(R,S)).bind λt=>(cG ((([]++((f.take i.2).drop i.1))++[C]).length+((f.take t.2).drop t.1).length)).bind λ_=>Y (.inl (aP q,d3,co,a4,((([]++((d.take h.2).drop h.1))++[u])++((d.take s.2).drop s.1)),((([]++((f.take i.2).drop i.1))++[C])++((f.take t.2).drop t.1)),())) else Y (.inr (V,w,F,K,an,()))) (0,U,H,E,[],[],())).bind λ(d4,cs,a,b,g,_)=>(cG ((a.2.2.2.2.1).length+b.length)).bind λ_=>(cG (((a.1,(a.2.1,(a.2.2.1,(a.2.2.2.1,((a.2.2.2.2.1++b),a.2.2.2.2.2))))).2.2.2.2.2.1).length+g.length)).bind λ_=>(cG ((((a.1,(a.2.1,(a.2.2.1,(a.2.2.2.1,((a.2.2.2.2.1++b),a.2.2.2.2.2))))).1,((a.1,(a.2.1,(a.2.2.1,(a.2.2.2.1,((a.2.2.2.2.1++b),a.2.2.2.2.2))))).2.1,((a.1,(a.2.1,(a.2.2.1,(a.2.2.2.1,((a.2.2.2.2.1++b),a.2.2.2.2.2))))).2.2.1,((a.1,(a.2.1,(a.2.2.1,(a.2.2.2.1,((a.2.2.2.2.1++b),a.2.2.2.2.2))))).2.2.2.1,((a.1,(a.2.1,(a.2.2.1,(a.2.2.2.1,((a.2.2.2.2.1++b),a.2.2.2.2.2))))).2.2.2.2.1,(((a.1,(a.2.1,(a.2.2.1,(a.2.2.2.1,((a.2.2.2.2.1++b),a.2.2.2.2.2))))).2.2.2.2.2.1++g),(a.1,(a.2.1,(a.2.2.1,(a.2.2.2.1,((a.2.2.2.2.1++b),a.2.2.2.2.2))))).2.2.2.2.2.2)))))).2.2.2.1).length+([ak (((a.1,(a.2.1,(a.2.2.1,(a.2.2.2.1,((a.2.2.2.2.1++b),a.2.2.2.2.2))))).1,((a.1,(a.2.1,(a.2.2.1,(a.2.2.2.1,((a.2.2.2.2.1++b),a.2.2.2.2.2))))).2.1,((a.1,(a.2.1,(a.2.2.1,(a.2.2.2.1,((a.2.2.2.2.1++b),a.2.2.2.2.2))))).2.2.1,((a.1,(a.2.1,(a.2.2.1,(a.2.2.2.1,((a.2.2.2.2.1++b),a.2.2.2.2.2))))).2.2.2.1,((a.1,(a.2.1,(a.2.2.1,(a.2.2.2.1,((a.2.2.2.2.1++b),a.2.2.2.2.2))))).2.2.2.2.1,(((a.1,(a.2.1,(a.2.2.1,(a.2.2.2.1,((a.2.2.2.2.1++b),a.2.2.2.2.2))))).2.2.2.2.2.1++g),(a.1,(a.2.1,(a.2.2.1,(a.2.2.2.1,((a.2.2.2.2.1++b),a.2.2.2.2.2))))).2.2.2.2.2.2)))))).2.2.2.2.1)]).length)).bind λ_=>
 Y (.inl (aP y,d4,cs,(((a.1,(a.2.1,(a.2.2.1,(a.2.2.2.1,((a.2.2.2.2.1++b),a.2.2.2.2.2))))).1,((a.1,(a.2.1,(a.2.2.1,(a.2.2.2.1,((a.2.2.2.2.1++b),a.2.2.2.2.2))))).2.1,((a.1,(a.2.1,(a.2.2.1,(a.2.2.2.1,((a.2.2.2.2.1++b),a.2.2.2.2.2))))).2.2.1,((a.1,(a.2.1,(a.2.2.1,(a.2.2.2.1,((a.2.2.2.2.1++b),a.2.2.2.2.2))))).2.2.2.1,((a.1,(a.2.1,(a.2.2.1,(a.2.2.2.1,((a.2.2.2.2.1++b),a.2.2.2.2.2))))).2.2.2.2.1,(((a.1,(a.2.1,(a.2.2.1,(a.2.2.2.1,((a.2.2.2.2.1++b),a.2.2.2.2.2))))).2.2.2.2.2.1++g),(a.1,(a.2.1,(a.2.2.1,(a.2.2.2.1,((a.2.2.2.2.1++b),a.2.2.2.2.2))))).2.2.2.2.2.2)))))).1,(((a.1,(a.2.1,(a.2.2.1,(a.2.2.2.1,((a.2.2.2.2.1++b),a.2.2.2.2.2))))).1,((a.1,(a.2.1,(a.2.2.1,(a.2.2.2.1,((a.2.2.2.2.1++b),a.2.2.2.2.2))))).2.1,((a.1,(a.2.1,(a.2.2.1,(a.2.2.2.1,((a.2.2.2.2.1++b),a.2.2.2.2.2))))).2.2.1,((a.1,(a.2.1,(a.2.2.1,(a.2.2.2.1,((a.2.2.2.2.1++b),a.2.2.2.2.2))))).2.2.2.1,((a.1,(a.2.1,(a.2.2.1,(a.2.2.2.1,((a.2.2.2.2.1++b),a.2.2.2.2.2))))).2.2.2.2.1,(((a.1,(a.2.1,(a.2.2.1,(a.2.2.2.1,((a.2.2.2.2.1++b),a.2.2.2.2.2))))).2.2.2.2.2.1++g),(a.1,(a.2.1,(a.2.2.1,(a.2.2.2.1,((a.2.2.2.2.1++b),a.2.2.2.2.2))))).2.2.2.2.2.2)))))).2.1,(((a.1,(a.2.1,(a.2.2.1,(a.2.2.2.1,((a.2.2.2.2.1++b),a.2.2.2.2.2))))).1,((a.1,(a.2.1,(a.2.2.1,(a.2.2.2.1,((a.2.2.2.2.1++b),a.2.2.2.2.2))))).2.1,((a.1,(a.2.1,(a.2.2.1,(a.2.2.2.1,((a.2.2.2.2.1++b),a.2.2.2.2.2))))).2.2.1,((a.1,(a.2.1,(a.2.2.1,(a.2.2.2.1,((a.2.2.2.2.1++b),a.2.2.2.2.2))))).2.2.2.1,((a.1,(a.2.1,(a.2.2.1,(a.2.2.2.1,((a.2.2.2.2.1++b),a.2.2.2.2.2))))).2.2.2.2.1,(((a.1,(a.2.1,(a.2.2.1,(a.2.2.2.1,((a.2.2.2.2.1++b),a.2.2.2.2.2))))).2.2.2.2.2.1++g),(a.1,(a.2.1,(a.2.2.1,(a.2.2.2.1,((a.2.2.2.2.1++b),a.2.2.2.2.2))))).2.2.2.2.2.2)))))).2.2.1,((((a.1,(a.2.1,(a.2.2.1,(a.2.2.2.1,((a.2.2.2.2.1++b),a.2.2.2.2.2))))).1,((a.1,(a.2.1,(a.2.2.1,(a.2.2.2.1,((a.2.2.2.2.1++b),a.2.2.2.2.2))))).2.1,((a.1,(a.2.1,(a.2.2.1,(a.2.2.2.1,((a.2.2.2.2.1++b),a.2.2.2.2.2))))).2.2.1,((a.1,(a.2.1,(a.2.2.1,(a.2.2.2.1,((a.2.2.2.2.1++b),a.2.2.2.2.2))))).2.2.2.1,((a.1,(a.2.1,(a.2.2.1,(a.2.2.2.1,((a.2.2.2.2.1++b),a.2.2.2.2.2))))).2.2.2.2.1,(((a.1,(a.2.1,(a.2.2.1,(a.2.2.2.1,((a.2.2.2.2.1++b),a.2.2.2.2.2))))).2.2.2.2.2.1++g),(a.1,(a.2.1,(a.2.2.1,(a.2.2.2.1,((a.2.2.2.2.1++b),a.2.2.2.2.2))))).2.2.2.2.2.2)))))).2.2.2.1++[ak (((a.1,(a.2.1,(a.2.2.1,(a.2.2.2.1,((a.2.2.2.2.1++b),a.2.2.2.2.2))))).1,((a.1,(a.2.1,(a.2.2.1,(a.2.2.2.1,((a.2.2.2.2.1++b),a.2.2.2.2.2))))).2.1,((a.1,(a.2.1,(a.2.2.1,(a.2.2.2.1,((a.2.2.2.2.1++b),a.2.2.2.2.2))))).2.2.1,((a.1,(a.2.1,(a.2.2.1,(a.2.2.2.1,((a.2.2.2.2.1++b),a.2.2.2.2.2))))).2.2.2.1,((a.1,(a.2.1,(a.2.2.1,(a.2.2.2.1,((a.2.2.2.2.1++b),a.2.2.2.2.2))))).2.2.2.2.1,(((a.1,(a.2.1,(a.2.2.1,(a.2.2.2.1,((a.2.2.2.2.1++b),a.2.2.2.2.2))))).2.2.2.2.2.1++g),(a.1,(a.2.1,(a.2.2.1,(a.2.2.2.1,((a.2.2.2.2.1++b),a.2.2.2.2.2))))).2.2.2.2.2.2)))))).2.2.2.2.1)]),((a.1,(a.2.1,(a.2.2.1,(a.2.2.2.1,((a.2.2.2.2.1++b),a.2.2.2.2.2))))).1,((a.1,(a.2.1,(a.2.2.1,(a.2.2.2.1,((a.2.2.2.2.1++b),a.2.2.2.2.2))))).2.1,((a.1,(a.2.1,(a.2.2.1,(a.2.2.2.1,((a.2.2.2.2.1++b),a.2.2.2.2.2))))).2.2.1,((a.1,(a.2.1,(a.2.2.1,(a.2.2.2.1,((a.2.2.2.2.1++b),a.2.2.2.2.2))))).2.2.2.1,((a.1,(a.2.1,(a.2.2.1,(a.2.2.2.1,((a.2.2.2.2.1++b),a.2.2.2.2.2))))).2.2.2.2.1,(((a.1,(a.2.1,(a.2.2.1,(a.2.2.2.1,((a.2.2.2.2.1++b),a.2.2.2.2.2))))).2.2.2.2.2.1++g),(a.1,(a.2.1,(a.2.2.1,(a.2.2.2.1,((a.2.2.2.2.1++b),a.2.2.2.2.2))))).2.2.2.2.2.2)))))).2.2.2.2)))),())) else
 Y (.inr (U,H,E,()))) (0,T,ce,D,())).bind λ(d5,cv,bl,_)=>Y (.inl (aP k,d5,cv,bl,())) else Y (.inr (T,D,()))) (0,d7,c2,bx,())).bind λ(_,bs,_)=>Y (bs,())
def C7:(kS×aA×bm qK×bt)->bv (dd×Z×bt):=λ(n,g,d,_)=>(GP (n,g,d,())).bind λ(A,_)=>(bif A !=0 then Y ((([]:aA),(([]:aA),(([]:aA),(([]:aA),(([]:aA),(([]:aA),((0:Z),()))))))),A,()) else((loop (σ:=(Z×bA×Z×dd×bm de×bm hg×bt)) (ρ:=((Z×dd×bm hg×bt)⊕(dd×Z×bt))) (λ(o,F,c,B,p,u,_)=>bif br (c<ak d) then(GU (n,g,d,c,p,())).bind λ(w,_)=>bif br (ak w.1>64) then Y (.inr (.inr ((([]:aA),(([]:aA),(([]:aA),(([]:aA),(([]:aA),(([]:aA),((0:Z),()))))))),6,()))) else(loop (σ:=(bA×dd×bm de×bm hg×de×bt)) (ρ:=(bA×dd×bm de×bm hg×de×bt)) (λ(h,k,e,i,a,_)=>bif !h then(C8 (a,())).bind λ(x,K,_)=>bB (α:=(bA×dd×bm de×bm hg×de×bt)) (bif !K then Y (bp,k,e,i,a,()) else
 Y (h,k,e,i,a,())) λ(r,l,f,j,b,_)=>bw (ak x==0) (Y (.inr (r,l,f,j,b,()))) ((zz (b,x,())).bind λ(y,z,L,_)=>bB (α:=(bA×dd×bm de×bm hg×de×de×hg×bt)) (bw (!L) (Y (bp,l,f,j,b,y,z,())) (Y (r,l,f,j,b,y,z,()))) λ(E,N,D,v,_,P,t,_)=>(cG (v.length+([t]).length)).bind λ_=>Y (.inl (E,N,D,(v++[t]),P,()))) else Y (.inr (h,k,e,i,a,()))) (F,B,p,u,w,())).bind λ(s,O,q,G,m,_)=>bw s (Y (.inr (.inr ((([]:aA),(([]:aA),(([]:aA),(([]:aA),(([]:aA),(([]:aA),((0:Z),()))))))),233,())))) ((cG (q.length+([m]).length)).bind λ_=>Y (.inl (ay (o+m.2.1),s,aP c,O,(q++[m]),G,()))) else
 Y (.inr (.inl (o,B,u,())))) (0,bq,0,([],([],([],([],([],([],((0:Z),()))))))),[],[],())).bind λI=>match I with
 |.inl (C,_,H,_)=>((GV (g,H,C,())).bind λ(M,_)=>Y (M,0,()))
 |.inr J=>Y J))
def LZ:bt->bv (kS×bt):=λ_=>Y ((2,(2,([0,1,1],([1],([4607182418800017408],()))))),())
def Cj:jg->bv jr:=λ(a,_)=>(fX (ak a) (ak a)).bind λg=>(loop (σ:=(Z×fD×bt)) (ρ:=(bt⊕jr)) (λ(e,f,_)=>bif br (e<ak a) then(bB (α:=(fD×bt)⊕((Z×fD×bt)⊕(bt⊕jr))) ((al a e).bind λd=>bB (α:=(fD×bt)⊕((fD×bt)⊕((Z×fD×bt)⊕(bt⊕jr)))) (bw (br (d<0)==bq) (bw (br (d>=ak a)==bq) (rd f d λj=>bw j (Y (.inr (.inr (.inr (.inr (bq,())))))) (Y (.inl (f,())))) (Y (.inr (.inr (.inr (.inr (bq,()))))))) (Y (.inr (.inr (.inr (.inr (bq,()))))))) λb=>match b with
 |.inl (i,_)=>(wr i d bp λk=>Y (.inl (k,())))
 |.inr c=>Y c) λb=>match b with
 |.inl (h,_)=>(Y (.inl (aP e,h,())))
 |.inr c=>Y c) else Y (.inr (.inl ()))) (0,bJ g bq,())).bind λb=>match b with
 |.inl _=>(Y (bp,()))
 |.inr c=>Y c
def Ck:(dd×bt)->bv (aA×bA×bt):=λ(b,_)=>(loop (σ:=(Z×Z×Z×aA×bt)) (ρ:=((Z×Z×aA×bt)⊕(aA×bA×bt))) (λ(a,h,g,e,_)=>bif br (g<ak b.2.1) then(bB (α:=(Z×Z×aA×bt)⊕((Z×Z×Z×aA×bt)⊕((Z×Z×aA×bt)⊕(aA×bA×bt)))) ((al b.2.1 g).bind λf=>bB (α:=jg⊕((Z×Z×aA×bt)⊕((Z×Z×Z×aA×bt)⊕((Z×Z×aA×bt)⊕(aA×bA×bt))))) (bB (α:=(bA×aA×bt)) (bw ((f !=1)==bp) (bw ((f !=2)==bq) (Y (br (a>=ak b.1),e,())) (Y (bp,e,()))) (Y (br (a>=ak b.1),e,()))) λ(q,o,_)=>bw q (Y (.inr (.inr (.inr (.inr ([],bq,())))))) (Y (.inl (o,())))) λc=>match c with
 |.inl (i,_)=>((cG (i.length+([a]).length)).bind λ_=>Y (.inl (ay (a+f),ay (h+ay (ay (2*f)-1)),(i++[a]),())))
 |.inr d=>Y d) λc=>match c with
 |.inl (k,m,p,_)=>(Y (.inl (k,m,aP g,p,())))
 |.inr d=>Y d) else Y (.inr (.inl (a,h,e,())))) (0,0,0,[],())).bind λc=>match c with
 |.inl (l,n,j,_)=>(bw ((l==ak b.1)==bp) (Y (j,(n==ak b.2.2.1),())) (Y (j,bq,())))
 |.inr d=>Y d
def Cb:(dd×aA×bt)->bv jr:=λ(a,j,_)=>bB (α:=bt⊕jr) ((al a.2.2.2.1 0).bind λt=>bw ((t !=0)==bq) ((al a.2.2.2.1 (ak a.1)).bind λu=>bw (u !=ak a.2.2.2.2.1) (Y (.inr (bq,()))) (Y (.inl ()))) (Y (.inr (bq,())))) λb=>match b with
 |.inl _=>((loop (σ:=eW) (ρ:=(bt⊕jr)) (λ(f,_)=>bif br (f<ak j) then((al j f).bind λi=>(al a.2.1 f).bind λm=>(loop (σ:=eW) (ρ:=(bt⊕(eW⊕(bt⊕jr)))) (λ(d,_)=>bif br (d<=ay (ay (i+m)-1)) then(bB (α:=bt⊕pK) (bB (α:=bt⊕(bt⊕pK)) ((al a.2.2.2.1 d).bind λv=>(al a.2.2.2.1 (aP d)).bind λp=>bw (br (v>p)==bq) ((al a.2.2.2.1 (aP d)).bind λq=>bw (br (q>ak a.2.2.2.2.1)) (Y (.inr (.inr (.inr (.inr (.inr (.inr (bq,())))))))) (Y (.inl ()))) (Y (.inr (.inr (.inr (.inr (.inr (.inr (bq,()))))))))) λb=>match b with
 |.inl _=>((al a.2.2.2.1 d).bind λr=>(al a.2.2.2.1 (aP d)).bind λs=>((gy r).bind λk=>(gy s).bind λl=>(hb k l (a.2.2.2.2.1).length).map λ_=>(k,l)).bind λe=>(loop (σ:=v9) (ρ:=(bt⊕(bt⊕pK))) (λ(n,g,_)=>bif br (g<ak (((a.2.2.2.2.1).take e.2).drop e.1)) then(bB (α:=eW⊕(v9⊕(bt⊕(bt⊕pK)))) ((al (((a.2.2.2.2.1).take e.2).drop e.1) g).bind λh=>bB (α:=bt⊕(eW⊕(v9⊕(bt⊕(bt⊕pK))))) (bw (br (h<=n)==bq) (bw (br (h>=ak a.1)) (Y (.inr (.inr (.inr (.inr (.inr (.inr (.inr (.inr (.inr (bq,()))))))))))) (Y (.inl ()))) (Y (.inr (.inr (.inr (.inr (.inr (.inr (.inr (.inr (.inr (bq,())))))))))))) λb=>match b with
 |.inl _=>(Y (.inl (h,())))
 |.inr c=>Y c) λb=>match b with
 |.inl (o,_)=>(Y (.inl (o,aP g,())))
 |.inr c=>Y c) else Y (.inr (.inl ()))) (ay (ay (i+m)-1),0,())).bind λb=>match b with
 |.inl _=>(Y (.inl ()))
 |.inr c=>Y c)
 |.inr c=>Y c) λb=>match b with
 |.inl _=>(Y (.inl (aP d,())))
 |.inr c=>Y c) else Y (.inr (.inl ()))) (i,())).bind λb=>match b with
 |.inl _=>(Y (.inl (aP f,())))
 |.inr c=>Y c) else Y (.inr (.inl ()))) (0,())).bind λb=>match b with
 |.inl _=>(Y (bp,()))
 |.inr c=>Y c)
 |.inr c=>Y c
def y4:(dd×bt)->bv (e1×bt):=λ(c,_)=>(loop (σ:=(Z×Z×e1×bt)) (ρ:=(e1×bt)) (λ(k,d,f,_)=>bw (br (d<ak c.2.1)) ((al c.2.1 d).bind λn=>(loop (σ:=(Z×Z×e1×gm×bt)) (ρ:=(Z×e1×gm×bt)) (λ(a,j,g,b,_)=>bw (br (j<ay (ay (2*n)-1))) ((al c.2.2.1 a).bind λo=>(j2 (o,())).bind λ(i,_)=>(cG (b.length+([i]).length)).bind λ_=>Y (.inl (aP a,aP j,g,(b++[i]),()))) (Y (.inr (a,g,b,())))) (k,0,f,[],())).bind λ(l,h,e,_)=>(cG (h.length+([e]).length)).bind λ_=>Y (.inl (l,aP d,(h++[e]),()))) (Y (.inr (f,())))) (0,0,[],())).bind λ(m,_)=>Y (m,())
def B7:(dd×bt)->bv eW:=λ(a,_)=>bB (α:=bt⊕eW) (bw (br (ak a.1>200)) (Y (.inr (6,()))) ((Cj (a.1,())).bind λ(n,_)=>bw (!n) (Y (.inr (90,()))) (bw ((ak a.2.2.2.1 !=aP (ak a.1))==bq) (bw (ak a.2.2.2.2.1 !=ak a.2.2.2.2.2.1) (Y (.inr (2,()))) (Y (.inl ()))) (Y (.inr (2,())))))) λb=>match b with
 |.inl _=>((Ck (a,())).bind λ(q,aE,_)=>bB (α:=bt⊕eW) (bw ((!aE)==bq) (bw (br (a.2.2.2.2.2.2.1<0)==bq) ((Cb (a,q,())).bind λ(r,_)=>bw (!r) (Y (.inr (240,()))) (Y (.inl ()))) (Y (.inr (240,())))) (Y (.inr (240,())))) λb=>match b with
 |.inl _=>((loop (σ:=(Z×bm aA×bt)) (ρ:=(bt⊕eW)) (λ(g,j,_)=>bif br (g<ak ([a.2.2.2.2.2.1,a.2.2.1])) then(rd j g λk=>(loop (σ:=(Z×bm aA×bt)) (ρ:=((bm aA×bt)⊕((Z×bm aA×bt)⊕(bt⊕eW)))) (λ(d,i,_)=>bw (br (d<ak k)) ((al k d).bind λu=>(nz (u,())).bind λ(m,_)=>bw (!m) (Y (.inr (.inr (.inr (.inr (4,())))))) (Y (.inl (aP d,i,())))) (Y (.inr (.inl (i,()))))) (0,j,())).bind λb=>match b with
 |.inl (s,_)=>(Y (.inl (aP g,s,())))
 |.inr c=>Y c) else Y (.inr (.inl ()))) (0,[a.2.2.2.2.2.1,a.2.2.1],())).bind λb=>match b with
 |.inl _=>((y4 (a,())).bind λ(h,_)=>(loop (σ:=(Z×e1×bt)) (ρ:=(bt⊕eW)) (λ(e,f,_)=>bif br (e<ak h) then(bB (α:=(e1×bt)⊕((Z×e1×bt)⊕(bt⊕eW))) (rd f e λl=>bw ((ak l==3)==bp) ((wI (l,())).bind λ(o,_)=>(mX (o,())).bind λ(p,_)=>bw (p==0) (Y (.inr (.inr (.inr (4,()))))) (Y (.inl (f,())))) (Y (.inl (f,())))) λb=>match b with
 |.inl (t,_)=>(Y (.inl (aP e,t,())))
 |.inr c=>Y c) else Y (.inr (.inl ()))) (0,h,())).bind λb=>match b with
 |.inl _=>(Y (0,()))
 |.inr c=>Y c)
 |.inr c=>Y c)
 |.inr c=>Y c)
 |.inr c=>Y c
def B9:(dd×bt)->bv (oW×Z×bt):=λ(j,_)=>(B7 (j,())).bind λ(l,_)=>(bif l !=0 then Y (((0:Z),((0:Z),((0:Z),()))),l,()) else(y4 (j,())).bind λ(m,_)=>(loop (σ:=(Z×oW×oW×e1×bt)) (ρ:=(oW×oW×bt)) (λ(h,c,a,d,_)=>bif br (h<ak m) then bB (α:=(oW×oW×e1×bt)) (rd d h λi=>(al i 0).bind λv=>(mX (v,())).bind λ(k,_)=>bB (α:=(Z×oW×oW×e1×bt)⊕(oW×oW×e1×bt)) (bw (ak i==3) ((wI (i,())).bind λ(r,_)=>(mX (r,())).bind λ(s,_)=>bw (br (s<0)) (Y (.inr (c,((aP a.1,a.2).1,((aP a.1,a.2).2.1,(ay ((aP a.1,a.2).2.2.1+1),(aP a.1,a.2).2.2.2))),d,()))) (Y (.inl (2,c,a,d,())))) (Y (.inl (1,c,a,d,())))) λp=>match p with
 |.inl (e,f,b,g,_)=>(bw (br (k<0)) (Y (f,(ay (b.1+e),b.2),g,())) (bw (br (k>0)) (Y (f,(b.1,(b.2.1,(ay (b.2.2.1+e),b.2.2.2))),g,())) (Y (f,(b.1,(ay (b.2.1+e),b.2.2)),g,()))))
 |.inr q=>Y q) λ(t,n,u,_)=>Y (.inl (aP h,t,n,u,())) else Y (.inr (c,a,()))) (0,((0:Z),((0:Z),((0:Z),()))),((0:Z),((0:Z),((0:Z),()))),m,())).bind λ(_,o,_)=>Y (o,0,()))
def CM:(aA×Z×Z×Z×bt)->bv jg:=λ(h,d,e,i,_)=>(loop (σ:=(Z×aA×bt)) (ρ:=jg) (λ(a,b,_)=>bw (br (a<e)) ((uw (h,ay (d+a),())).bind λ(g,_)=>(wO (g,i,())).bind λ(c,_)=>(cG (b.length+([c]).length)).bind λ_=>Y (.inl (aP a,(b++[c]),()))) (Y (.inr (b,())))) (0,[],())).bind λ(f,_)=>Y (f,())
def Cg:(c0×Z×Z×bt)->bv (c0×bm eF×Z×bt):=λ(a,j,k,_)=>(y9 (Y a,())).bind λ(b,_)=>(j2 (k,())).bind λ(c,_)=>(mX (c,())).bind λ(l,_)=>(bw (l==0) ((qW (1,())).bind λ(m,_)=>(Gl (Y a,b,(),m,())).bind λ(n,d,e,_)=>bw (e !=0) (Y (a,[],e,())) ((o2 (d,c,())).bind λ(o,_)=>(pW (a,b,o,d,())).bind λ(h,_)=>Y (h,[n],0,()))) ((Gm (Y a,b,(Y (Y a),Y j,()),c,())).bind λ(p,f,g,_)=>bw (g !=0) (Y (a,[],g,())) ((o2 (f,c,())).bind λ(q,_)=>(pW (a,b,q,f,())).bind λ(i,_)=>Y (i,[p],0,()))))
def y7:(Z×Z×Z×cU×cU×bv (bv c0)×bt)->bv (cU×bt):=λ(a,c,d,h,i,b,_)=>b.bind λo=>o.bind λp=>(al p.2.2.2.1 a).bind λq=>(al q c).bind λj=>(ny (j,h,())).bind λ(e,_)=>b.bind λk=>k.bind λl=>(al l.2.2.2.1 a).bind λm=>(al m d).bind λn=>(ny (n,i,())).bind λ(f,_)=>(wz (e,f,())).bind λ(g,_)=>Y (g,())
def Ce:(Z×bv (bv (bv c0)×bt)×ag6×ag6×bv gm×bt)->bv (cU×bt):=λ(b,c,d,e,a,_)=>c.bind λj=>d.bind λk=>e.bind λl=>a.bind λm=>(al m 2).bind λg=>a.bind λh=>(al h 1).bind λi=>(y7 (b,k,l,g,i,j.1,())).bind λ(f,_)=>Y (f,())
def Gn:(bv c0×aA×(bv (bv (bv c0)×bt)×ag6×ag6×bv gm×bt)×cU×bt)->bv (eF×gm×Z×bt):=λ(r,g,b,q,_)=>(loop (σ:=(Z×eF×eF×gm×bt)) (ρ:=((eF×eF×gm×bt)⊕(eF×gm×Z×bt))) (λ(f,i,a,e,_)=>bif br (f<ak g) then(al g f).bind λj=>(Ce (j,b.1,b.2.1,b.2.2.1,b.2.2.2.1,())).bind λ(o,_)=>(sj (o,q,0,())).bind λ(c,_)=>(nz (c,())).bind λ(p,_)=>bw (!p) (Y (.inr (.inr (a,[],233,())))) (r.bind λs=>(al s.1 j).bind λd=>(cG ((a.1).length+([d]).length)).bind λ_=>(cG ((a.2.1).length+([c]).length)).bind λ_=>(j2 (c,())).bind λ(h,_)=>(cG (e.length+([h]).length)).bind λ_=>Y (.inl (aP f,i,(((a.1++[d]),a.2).1,((((a.1++[d]),a.2).2.1++[c]),((a.1++[d]),a.2).2.2)),(e++[h]),()))) else
 Y (.inr (.inl (i,a,e,())))) (0,([],([],())),([],([],())),[],())).bind λm=>match m with
 |.inl (_,k,l,_)=>(Y (k,l,0,()))
 |.inr n=>Y n
def Cf:(Z×bv (bv (bv c0)×bt)×ag6×ag6×bv gm×bt)->bv (cU×bt):=λ(b,c,d,e,a,_)=>c.bind λj=>d.bind λk=>e.bind λl=>a.bind λm=>(al m 0).bind λg=>a.bind λh=>(al h 1).bind λi=>(y7 (b,k,l,g,i,j.1,())).bind λ(f,_)=>Y (f,())
def Gp:(bv c0×aA×(bv (bv (bv c0)×bt)×ag6×ag6×bv gm×bt)×cU×bt)->bv (eF×gm×Z×bt):=λ(r,g,b,q,_)=>(loop (σ:=(Z×eF×eF×gm×bt)) (ρ:=((eF×eF×gm×bt)⊕(eF×gm×Z×bt))) (λ(f,i,a,e,_)=>bif br (f<ak g) then(al g f).bind λj=>(Cf (j,b.1,b.2.1,b.2.2.1,b.2.2.2.1,())).bind λ(o,_)=>(sj (o,q,0,())).bind λ(c,_)=>(nz (c,())).bind λ(p,_)=>bw (!p) (Y (.inr (.inr (a,[],233,())))) (r.bind λs=>(al s.1 j).bind λd=>(cG ((a.1).length+([d]).length)).bind λ_=>(cG ((a.2.1).length+([c]).length)).bind λ_=>(j2 (c,())).bind λ(h,_)=>(cG (e.length+([h]).length)).bind λ_=>Y (.inl (aP f,i,(((a.1++[d]),a.2).1,((((a.1++[d]),a.2).2.1++[c]),((a.1++[d]),a.2).2.2)),(e++[h]),()))) else
 Y (.inr (.inl (i,a,e,())))) (0,([],([],())),([],([],())),[],())).bind λm=>match m with
 |.inl (_,k,l,_)=>(Y (k,l,0,()))
 |.inr n=>Y n
def y6:(c0×Z×Z×aA×bt)->bv (c0×bm eF×Z×bt):=λ(a,i,m,h,_)=>(y9 (Y a,())).bind λ(e,_)=>(al h 0).bind λx=>(j2 (x,())).bind λ(b,_)=>(al h 1).bind λy=>(j2 (y,())).bind λ(c,_)=>(al h 2).bind λz=>(j2 (z,())).bind λ(d,_)=>(wI ([b,c,d],())).bind λ(j,_)=>(Gn (Y a,e,(Y (Y (Y a),()),Y i,Y m,Y [b,c,d],()),j,())).bind λ(r,f,k,_)=>(bif k !=0 then Y (a,[],k,()) else(Gp (Y a,e,(Y (Y (Y a),()),Y m,Y i,Y [b,c,d],()),j,())).bind λ(s,g,l,_)=>bif l !=0 then Y (a,[],l,()) else(al [b,c,d] 0).bind λA=>(o2 (f,A,())).bind λ(t,_)=>(pW (a,e,t,f,())).bind λ(n,_)=>(al [b,c,d] 1).bind λB=>(o2 (f,B,())).bind λ(u,_)=>
 (pW (n,e,u,g,())).bind λ(o,_)=>(al [b,c,d] 1).bind λC=>(o2 (g,C,())).bind λ(v,_)=>(pW (o,e,v,f,())).bind λ(p,_)=>(al [b,c,d] 2).bind λD=>(o2 (g,D,())).bind λ(w,_)=>(pW (p,e,w,g,())).bind λ(q,_)=>Y (q,[r,s],0,()))
def Cm:((bv (Z×((bm aA×bt)×(bm (bv (bm (Z×cU)×X))×bt)))×(aA×(aA×(aA×(bm eF×eW)))))×c0×aA×bt)->bv ((bv (Z×((bm aA×bt)×(bm (bv (bm (Z×cU)×X))×bt)))×(aA×(aA×(aA×(bm eF×eW)))))×c0×Z×bt):=λ(C,D,b,_)=>(loop (σ:=(Z×(bv (Z×((bm aA×bt)×(bm (bv (bm (Z×cU)×X))×bt)))×(aA×(aA×(aA×(bm eF×eW)))))×c0×aA×bt)) (ρ:=((bv (Z×((bm aA×bt)×(bm (bv (bm (Z×cU)×X))×bt)))×(aA×(aA×(aA×(bm eF×eW)))))×c0×aA×bt)) (λ(d,o,r,l,_)=>bif br (d<ak b) then(loop (σ:=(Z×(bv (Z×((bm aA×bt)×(bm (bv (bm (Z×cU)×X))×bt)))×(aA×(aA×(aA×(bm eF×eW)))))×c0×aA×bt)) (ρ:=((bv (Z×((bm aA×bt)×(bm (bv (bm (Z×cU)×X))×bt)))×(aA×(aA×(aA×(bm eF×eW)))))×c0×aA×bt)) (λ(i,p,j,h,_)=>bif br (i<aP d) then(al b d).bind λF=>
 (al b i).bind λG=>(sn (Y j,F,G,())).bind λ(n,_)=>(cG (h.length+([n]).length)).bind λ_=>Y (.inl (aP i,p,j,(h++[n]),())) else Y (.inr (p,j,h,()))) (0,o,r,l,())).bind λ(g,e,u,_)=>(al b d).bind λH=>(bj (e.2.2.1).length H).bind λm=>((((bb e.2.2.1 m λ_=>Y ((e.2.2.1).set m bq)).map λN=>(N,e.2.2.2)).map λO=>(e.2.1,O)).map λP=>(e.1,P)).bind λt=>(al b d).bind λI=>rd t.1 I λs=>(cG ((g.2.1).length+([s]).length)).bind λ_=>Y (.inl (aP d,(g.1,((g.2.1++[s]),g.2.2)),t,u,())) else Y (.inr (o,r,l,()))) (0,C,D,[],())).bind λ(a,q,f,_)=>(cG ((a.2.2.1).length+([ak b]).length)).bind λ_=>(cG (((a.1,(a.2.1,((a.2.2.1++[ak b]),a.2.2.2))).2.2.2.1).length+f.length)).bind λ_=>bB (α:=(Z×bm eF×(bv (Z×((bm aA×bt)×(bm (bv (bm (Z×cU)×X))×bt)))×(aA×(aA×(aA×(bm eF×eW)))))×c0×bt)) (bw (ak b==1) ((al b 0).bind λJ=>rd f 0 λK=>(Cg (q,J,K,())).bind λ(w,y,z,_)=>Y (z,y,((a.1,(a.2.1,((a.2.2.1++[ak b]),a.2.2.2))).1,((a.1,(a.2.1,((a.2.2.1++[ak b]),a.2.2.2))).2.1,((a.1,(a.2.1,((a.2.2.1++[ak b]),a.2.2.2))).2.2.1,(((a.1,(a.2.1,((a.2.2.1++[ak b]),a.2.2.2))).2.2.2.1++f),(a.1,(a.2.1,((a.2.2.1++[ak b]),a.2.2.2))).2.2.2.2)))),w,())) ((al b 0).bind λL=>(al b 1).bind λM=>(y6 (q,L,M,f,())).bind λ(x,A,B,_)=>Y (B,A,((a.1,(a.2.1,((a.2.2.1++[ak b]),a.2.2.2))).1,((a.1,(a.2.1,((a.2.2.1++[ak b]),a.2.2.2))).2.1,((a.1,(a.2.1,((a.2.2.1++[ak b]),a.2.2.2))).2.2.1,(((a.1,(a.2.1,((a.2.2.1++[ak b]),a.2.2.2))).2.2.2.1++f),(a.1,(a.2.1,((a.2.2.1++[ak b]),a.2.2.2))).2.2.2.2)))),x,()))) λ(v,k,c,E,_)=>(cG ((c.2.2.2.2.1).length+k.length)).bind λ_=>Y ((c.1,(c.2.1,(c.2.2.1,(c.2.2.2.1,((c.2.2.2.2.1++k),c.2.2.2.2.2))))),E,v,())
def Co:((bv (Z×((bm aA×bt)×(bm (bv (bm (Z×cU)×X))×bt)))×(aA×(aA×(aA×(bm eF×eW)))))×c0×bt)->bv ((bv (Z×((bm aA×bt)×(bm (bv (bm (Z×cU)×X))×bt)))×(aA×(aA×(aA×(bm eF×eW)))))×c0×Z×bt):=λ(n,s,_)=>(loop (σ:=((bv (Z×((bm aA×bt)×(bm (bv (bm (Z×cU)×X))×bt)))×(aA×(aA×(aA×(bm eF×eW)))))×c0×bt)) (ρ:=(((bv (Z×((bm aA×bt)×(bm (bv (bm (Z×cU)×X))×bt)))×(aA×(aA×(aA×(bm eF×eW)))))×c0×bt)⊕((bv (Z×((bm aA×bt)×(bm (bv (bm (Z×cU)×X))×bt)))×(aA×(aA×(aA×(bm eF×eW)))))×c0×Z×bt))) (λ(d,c,_)=>(Cd (Y c,())).bind λ(h,i,_)=>bw (i !=0) (Y (.inr (.inr (d,c,i,())))) (bw (ak h==0) (Y (.inr (.inl (d,c,())))) ((Cm (d,c,h,())).bind λ(f,g,j,_)=>bw (j !=0) (Y (.inr (.inr (f,g,j,())))) (Y (.inl (f,g,())))))) (n,s,())).bind λl=>match l with
 |.inl (o,k,_)=>((loop (σ:=(Z×(bv (Z×((bm aA×bt)×(bm (bv (bm (Z×cU)×X))×bt)))×(aA×(aA×(aA×(bm eF×eW)))))×c0×bt)) (ρ:=((bv (Z×((bm aA×bt)×(bm (bv (bm (Z×cU)×X))×bt)))×(aA×(aA×(aA×(bm eF×eW)))))×c0×bt)) (λ(e,a,b,_)=>bw (br (e<k.2.1)) (bB (α:=((bv (Z×((bm aA×bt)×(bm (bv (bm (Z×cU)×X))×bt)))×(aA×(aA×(aA×(bm eF×eW)))))×c0×bt)) (rd b.2.2.1 e λu=>bw u (Y ((a.1,(a.2.1,(a.2.2.1,(a.2.2.2.1,(a.2.2.2.2.1,(aP a.2.2.2.2.2.1,a.2.2.2.2.2.2)))))),b,())) (Y (a,b,()))) λ(p,r,_)=>Y (.inl (aP e,p,r,()))) (Y (.inr (a,b,())))) (0,o,k,())).bind λ(q,t,_)=>Y (q,t,0,()))
 |.inr m=>Y m
def uo:(kS×aA×bm qK×bt)->bv (dd×Z×bt):=λ(x,o,b,_)=>(wZ (x,o,())).bind λ(i,p,_)=>(bif p !=0 then Y ((([]:aA),(([]:aA),(([]:aA),(([]:aA),(([]:aA),(([]:aA),((0:Z),()))))))),p,()) else i.bind λM=>(uA (M.2.1,b,())).bind λ(q,_)=>bif q !=0 then Y ((([]:aA),(([]:aA),(([]:aA),(([]:aA),(([]:aA),(([]:aA),((0:Z),()))))))),q,()) else(CA (b,(),())).bind λ(E,_)=>bif E then Y ((([]:aA),(([]:aA),(([]:aA),(([]:aA),(([]:aA),(([]:aA),((0:Z),()))))))),6,()) else((fX (ak b) (ak b)).bind λD=>(loop (σ:=(Z×dd×(bv (Z×((bm aA×bt)×(bm (bv (bm (Z×cU)×X))×bt)))×(aA×(aA×(aA×(bm eF×eW)))))×bm (bm (bv c0))×bt)) (ρ:=((dd×(bv (Z×((bm aA×bt)×(bm (bv (bm (Z×cU)×X))×bt)))×(aA×(aA×(aA×(bm eF×eW)))))×bt)⊕(dd×Z×bt))) (λ(d,k,j,e,_)=>
 bif br (d<ak b) then(bB (α:=(dd×(bv (Z×((bm aA×bt)×(bm (bv (bm (Z×cU)×X))×bt)))×(aA×(aA×(aA×(bm eF×eW)))))×bm (bm (bv c0))×bt)⊕((Z×dd×(bv (Z×((bm aA×bt)×(bm (bv (bm (Z×cU)×X))×bt)))×(aA×(aA×(aA×(bm eF×eW)))))×bm (bm (bv c0))×bt)⊕((dd×(bv (Z×((bm aA×bt)×(bm (bv (bm (Z×cU)×X))×bt)))×(aA×(aA×(aA×(bm eF×eW)))))×bt)⊕(dd×Z×bt)))) ((al b d).bind λl=>rd e d λw=>(Ca (i,l,w,())).bind λ(r,s,_)=>bB (α:=(Z×dd×(bv (Z×((bm aA×bt)×(bm (bv (bm (Z×cU)×X))×bt)))×(aA×(aA×(aA×(bm eF×eW)))))×bm (bm (bv c0))×qK×c0×bt)) (bw (s==0) ((Co (j,r,())).bind λ(B,C,F,_)=>Y (F,k,B,e,l,C,())) (Y (s,k,j,e,l,r,()))) λ(m,u,t,a,f,v,_)=>bif m !=0 then
 Y (.inr (.inr (.inr ((([]:aA),(([]:aA),(([]:aA),(([]:aA),(([]:aA),(([]:aA),((0:Z),()))))))),m,())))) else bw (br (f.2.2.2.1>=0)) ((bj a.length f.2.2.2.1).bind λn=>(bb a n λz=>Y z).bind λK=>(cG (K.length+([Y v]).length)).bind λ_=>(bj a.length f.2.2.2.1).bind λc=>bw (bI n c&&bp) ((bb a c λA=>Y A).bind λL=>(bb a c λ_=>Y (a.set c (L++[Y v]))).bind λN=>Y (.inl (u,t,N,()))) bo) (Y (.inl (u,t,a,())))) λg=>match g with
 |.inl (J,H,y,_)=>(Y (.inl (aP d,J,H,y,())))
 |.inr h=>Y h) else Y (.inr (.inl (k,j,())))) (0,([],([],([],([],([],([],((0:Z),()))))))),(i,(([]:aA),(([]:aA),(([]:aA),(([]:bm eF),((0:Z),())))))),bJ D [],())).bind λg=>match g with
 |.inl (_,I,_)=>((Cn (Y I,o,())).bind λ(G,_)=>Y (G,0,()))
 |.inr h=>Y h))
def CO:bt->bv jr:=λ_=>(LZ ()).bind λ(b,_)=>(uo (b,[0,1],[(0,(2,([0,1],((-1:Z),()))))],())).bind λ(a,c,_)=>(B9 (a,())).bind λ(aE,d,_)=>(bw ((c==0)==bp) (bw ((d==0)==bp) ((zg (a.2.1,[2],())).bind λ(e,_)=>bw (e==bp) (Y ((((aE).1==(1,((0:Z),(1,()))).1)&&(((aE).2.1==(1,((0:Z),(1,()))).2.1)&&(((aE).2.2.1==(1,((0:Z),(1,()))).2.2.1)&&bp))),())) (Y (bq,()))) (Y (bq,()))) (Y (bq,())))
def GC:(aA×Z×Z×bt)->bv jr:=λ(l,w,J,_)=>(uv (w,8,())).bind λ(aE,_)=>(CM (l,0,aE,J,())).bind λ(I,_)=>(loop (σ:=(Z×kS×bt)) (ρ:=(kS×bt)) (λ(b,a,_)=>bw (br (b<aE)) ((cG ((a.2.2.2.1).length+([b]).length)).bind λ_=>(cG ((a.2.2.1).length+([aP b]).length)).bind λ_=>Y (.inl (aP b,((a.1,(a.2.1,(a.2.2.1,((a.2.2.2.1++[b]),a.2.2.2.2)))).1,((a.1,(a.2.1,(a.2.2.1,((a.2.2.2.1++[b]),a.2.2.2.2)))).2.1,(((a.1,(a.2.1,(a.2.2.1,((a.2.2.2.1++[b]),a.2.2.2.2)))).2.2.1++[aP b]),(a.1,(a.2.1,(a.2.2.1,((a.2.2.2.1++[b]),a.2.2.2.2)))).2.2.2))),()))) (Y (.inr (a,())))) (0,(aE,(aE,([0],(([]:aA),(I,()))))),())).bind λ(j,_)=>(CL (l,aE,())).bind λ(i,_)=>(ze (j,i,l,())).bind λ(x,_)=>(uo (j,i,x,())).bind λ(g,y,_)=>bB (α:=(kS×dd×bt)⊕jr) (bif (y !=0)==bq then bif (g.2.2.2.2.2.2.1 !=0)==bq then bif (ak g.2.1 !=aE)==bq then(zg (g.1,i,())).bind λ(z,_)=>
 bw ((!z)==bq) (bw (ak g.2.2.1 !=aE) (Y (.inr (bq,()))) (Y (.inl (j,g,())))) (Y (.inr (bq,()))) else Y (.inr (bq,())) else Y (.inr (bq,())) else Y (.inr (bq,()))) λc=>match c with
 |.inl (o,s,_)=>((loop (σ:=(Z×kS×dd×bt)) (ρ:=((kS×dd×bt)⊕jr)) (λ(h,m,e,_)=>bif br (h<ak e.2.2.2.2.2.1) then(bB (α:=(kS×dd×bt)⊕((Z×kS×dd×bt)⊕((kS×dd×bt)⊕jr))) ((al e.2.2.2.2.2.1 h).bind λK=>(j3 (K,())).bind λ(A,_)=>(wT (A,())).bind λ(B,_)=>bw ((B !=0)==bq) ((al e.2.2.2.2.2.1 h).bind λL=>(pY (L,())).bind λ(C,_)=>bw (!C) (Y (.inr (.inr (.inr (bq,()))))) (Y (.inl (m,e,())))) (Y (.inr (.inr (.inr (bq,())))))) λc=>match c with
 |.inl (p,t,_)=>(Y (.inl (aP h,p,t,())))
 |.inr d=>Y d) else Y (.inr (.inl (m,e,())))) (0,o,s,())).bind λc=>match c with
 |.inl (q,u,_)=>((loop (σ:=(Z×kS×dd×bt)) (ρ:=(bt⊕jr)) (λ(f,n,k,_)=>bif br (f<aE) then(bB (α:=(kS×dd×bt)⊕((Z×kS×dd×bt)⊕(bt⊕jr))) ((al k.2.1 f).bind λM=>bw ((M !=1)==bq) ((al k.2.2.1 f).bind λN=>(j3 (N,())).bind λ(D,_)=>(al i f).bind λO=>rd n.2.2.2.2.1 O λP=>(j3 (P,())).bind λ(E,_)=>(su (D,E,())).bind λ(F,_)=>(wT (F,())).bind λ(G,_)=>bw (G !=0) (Y (.inr (.inr (.inr (bq,()))))) (Y (.inl (n,k,())))) (Y (.inr (.inr (.inr (bq,())))))) λc=>match c with
 |.inl (r,v,_)=>(Y (.inl (aP f,r,v,())))
 |.inr d=>Y d) else Y (.inr (.inl ()))) (0,q,u,())).bind λc=>match c with
 |.inl _=>((CO ()).bind λ(H,_)=>Y (H,()))
 |.inr d=>Y d)
 |.inr d=>Y d)
 |.inr d=>Y d
end Go.jm
section
namespace Go.Proofs
open Go.RowKit Go.Shelf Go.Sort
attribute [local go_sem] Oper.semAt_some
def Tryz.Wt:Go.Shelf.Ren:=⟨λ|20=>295|n=>n,λ|22=>23|3=>3|4=>4|0=>0|n=>n,λ|n=>n⟩
def Tryz.Nx:Lays2.n20 cn Tryz.Wt where
 mixed:=by kernel_rfl
 f20:=Tryz.func295.trans (b3 Y (by kernel_rfl))
 t0:=Tryz.underlying0
 a0:=Tryz.isAgg0
 z0:=Tryz.sizeOf0
 v0:=Tryz.zeroValue0
 t3:=Tryz.underlying3
 a3:=Tryz.isAgg3
 z3:=Tryz.sizeOf3
 v3:=Tryz.zeroValue3
 t4:=Tryz.underlying4
 a4:=Tryz.isAgg4
 z4:=Tryz.sizeOf4
 v4:=Tryz.zeroValue4
 t22:=alV
 a22:=Tryz.isAgg23
 z22:=Tryz.sizeOf23
 v22:=Tryz.zeroValue23
 i3:=by kernel_rfl
namespace KH
def mJ {a:Type} (b:X->a) (c:X):bm a:=(bH c).map b
def Re {c:Type} (a:X->c) (b:X):mJ a (b+1)=mJ a b++[a b]:=by simp[mJ,iM]
def adJ {c:Type} (b:X->c) (a:X):(mJ b a).length=a:=by simp[mJ]
def adI (a:ahc):mJ (λc=>a[c]?.getD 0) a.length=a:=by
 apply vO
 ·simp[mJ]
 intro e d b;simp[mJ,b]
set_option maxRecDepth 100000 in
set_option maxHeartbeats 2000000 in
def adR (j:aie) (m:X) (A:j.fn 317) (K:j.round=bo) (T:1<=m) (v q n h k b x:X) (g:ahc) (U:b*8<=140737488351232) (F:h<n) (J r:ahc->bD->Prop) (E:∀e o c,J e c->e.length<b->YieldAt j (m-1) cn v #[.int .i64 o] c λi f=>
  (i=.returned (.bool bp)/\J (e++[o]) f/\Below n c f)\/(i=.returned (.bool bq)/\r (e++[o]) f))
 (c:bD) (Q:c.cell? ⟨q,0,bo⟩=Y (.slice (Y ⟨h,k,bo⟩) b x)) (G:∀d,d<b->c.cell? ⟨h,k+d,bo⟩=Y (.int .i64 (g[d]?.getD 0))) (z:J [] c):
 ah6 j m cn 317 #[.func (.yield v) #[] #[],.pointer (Y ⟨q,0,bo⟩)] c λi f=>(∃L,i=.returned L)/\((∃w,w=mJ (λd=>g[d]?.getD 0) b/\J w f)\/(∃e,(∃a,a<=b/\e=mJ (λd=>g[d]?.getD 0) a)/\r e f)):=by
 refine aiV ak0 bn A ?_ K;simp only[alW,tK,jc,oK,aiv,aiw,vD,vE,vS,vM,iL,nW]
 gi_wp2
 gi_loopw [7] (λl wr=>∃a:X,a<=b/\l=.int .i64 a/\J (mJ (λd=>g[d]?.getD 0) a) wr/\Below n c wr) (λl _=>b-(intOf l).toNat)
 case atStart=>exact⟨0,c8 _,bn,z,ajh _ _⟩
 case round=>
  obtain⟨a,S,rfl,s,u⟩:=hrel;have H:a<b->wr.cell? ⟨h,k+a,bo⟩=Y (.int .i64 (g[a]?.getD 0)):=λy=>(u.cell (p:=⟨h,k+a,bo⟩) F).trans (G a y);by_cases t:a<b
  ·obtain⟨P,ad,N,O,V,D⟩:=E _ (g[a]?.getD 0) wr s (by rw[adJ];exact t);have R:=H t
   gi_wp2
   refine D.mono ?_;rintro i M (⟨rfl,B,I⟩|⟨rfl,C⟩)
   ·gi_wp2
    go_roundw
    case rel=>exact⟨a+1,aa,ac,by rw[Re];exact B,u.trans I⟩
    case measure=>simp[intOf];omega
   gi_wp2
   refine bodyPost_ret (results_none bn _ _ _) rfl ?_;exact⟨⟨_,bn⟩,.inr ⟨_,⟨a+1,aa,(Re _ _).symm⟩,C⟩⟩
  obtain rfl:a=b:=by omega
  gi_wp2
  go_end0
  exact⟨⟨_,bn⟩,.inl ⟨_,bn,s⟩⟩
def adK (a:ahc) {b:X} (d:b<=a.length):mJ (λf=>a[f]?.getD 0) b=a.take b:=by
 apply vO
 ·simp[mJ,d]
 intro e c g;have:e<a.length:=(by simp[mJ] at c;omega);simp[mJ,this]
def pw (i:X) (g:bD) (f:Value) (a:ahc):Prop:=
 (∃h c,f=.slice h 0 c/\a=[])\/∃b e c,f=.slice (Y ⟨b,e,bo⟩) a.length c/\b<i/\∀d,d<a.length->g.cell? ⟨b,e+d,bo⟩=Y (.int .i64 (a[d]?.getD 0))
def pw.below {b:X} {c d:bD} (l:Below b c d) {i:Value} {j:ahc}:pw b c i j->pw b d i j
 |.inl a=>.inl a
 |.inr ⟨e,h,k,a,f,m⟩=>.inr ⟨e,h,k,a,f,λg n=>(l.cell (p:=⟨e,h+g,bo⟩) f).trans (m g n)⟩
set_option maxRecDepth 100000 in
set_option maxHeartbeats 1000000 in
def adS (a:aie) (n:X) (i:a.fn 317) (k:a.round=bo) (m c:X) (e:bv Addr) (f:X) (J:ahc->bD->Prop) (b:bD) (p:b.cell? ⟨c,0,bo⟩=Y (.slice e 0 f)) (h:J [] b):ah6 a n cn 317 #[.func (.yield m) #[] #[],.pointer (Y ⟨c,0,bo⟩)] b λg d=>(∃o,g=.returned o)/\J [] d:=by
 refine aiV ak0 bn i ?_ k;simp only[alW,tK,jc,oK,aiv,aiw,vD,vE,vS,vM,iL,nW]
 gi_wp2
 gi_loopw [7] (λl wr=>l=.int .i64 0/\J [] wr) (λ_ _=>0)
 case atStart=>exact⟨bn,h⟩
 case round=>
  obtain⟨rfl,j⟩:=hrel
  gi_wp2
  go_end0
  exact⟨⟨_,bn⟩,j⟩
set_option maxHeartbeats 1000000 in
def adT (a:aie) (i:X) (g:a.fn 297) (h:a.round=bo) (c:bv Addr) (e d:X) (b:bD):ah6 a i cn 297 #[.slice c e d] b λf j=>f=.returned (.func (.func 317) #[] #[.pointer (Y ⟨b.heap.size,0,bo⟩)])/\j=b.alloc (.cells #[.slice c e d] 23):=by
 refine aiV Tryz.func297 bn g ?_ h;simp only[Tryz.ntmps297,tK,jc,oK,aiv,aiw,vD,vE,vS,vM,iL,nW]
 gi_wp2
 go_ret
 exact⟨bn,bn⟩
def adU (c:aie) (g:X) (l:c.fn 317) (o:c.round=bo) (G:1<=g) (b h:X) (s:Value) (a:ahc) (I:a.length*8<=140737488351232) (e:bD) (z:b<e.heap.size) (H:h<=e.heap.size) (D:e.cell? ⟨b,0,bo⟩=Y s) (A:pw h e s a):SeqStopsK c g cn 317 #[.pointer (Y ⟨b,0,bo⟩)] (λL:Z=>#[ahr .i64 L]) (Below h) (λt=>t=a) (λr=>r<+:a) a.length e:=λq J u j m _ _ B k=>by
 have n:=(m.cell (p:=⟨b,0,bo⟩) z).trans D;rcases A.below (m.mono H) with⟨w,i,rfl,rfl⟩|⟨x,K,i,rfl,C,E⟩
 ·exact(adS c g l o q b w i J j n k).mono λy v ⟨f,d⟩=>⟨f,.inl ⟨_,bn,d⟩⟩
 refine(adR c g l o G q b h x K a.length i a I C J u B j n E k).mono ?_;rintro y v ⟨f,⟨t,rfl,d⟩|⟨r,⟨M,F,rfl⟩,d⟩⟩
 ·exact⟨f,.inl ⟨_,adI a,d⟩⟩
 exact⟨f,.inr ⟨_,by rw[adK a F];exact List.take_prefix _ _,d⟩⟩
def VZ:(cn.info? 3).map (λa=>(a.zero,a.size,a.bytes))=Y (Y (.int .i64 0),1,8):=by kernel_rfl
set_option maxRecDepth 100000 in
set_option maxHeartbeats 2000000 in
def SJ (g:aie) (m:X) (E:g.fn 331) (u:g.fn 317) (q:g.round=bo) (a4:3<=m) (e:X) (r:Value) (f:ahc) (M:f.length*8<=140737488351232) (a:bD) (F:e<a.heap.size) (o:a.cell? ⟨e,0,bo⟩=Y r) (H:pw a.heap.size a r f):ah6 g m cn 331 #[.slice bo 0 0,.func (.func 317) #[] #[.pointer (Y ⟨e,0,bo⟩)]] a λB t=>∃b,B=.returned b/\t.ownsRow a.heap.size 3 1 b f.length (f.map (ahr .i64))/\(b=.slice bo 0 0↔f=[])/\Below a.heap.size a t:=by
 have D:1<=m:=aa;obtain⟨S,J,P,Q,R⟩:=info_parts VZ;refine callsIn_of_wp_marks Tryz.func331 bn E ?_ q;simp only[Tryz.ntmps331,tK,jc,oK,aiv,aiw,vD,vE,vS,vM,iL,nW]
 gi_wp2
 have A:=alX a 23 (.slice bo 0 0);have n:Below a.heap.size a (a.alloc (.cells #[.slice bo 0 0] 23)):=(ajh _ a).alloc (bd _) _;refine wpIn_rangeFunc_ownG q D (gf:=317) (lb:=#[.pointer (Y ⟨e,0,bo⟩)]) rfl u (enters_of ak0 (by kernel_rfl) rfl) (adU g (m-1) u q aa e a.heap.size r f M _ (by simp;omega) ac ((n.cell (p:=⟨e,0,bo⟩) F).trans o) (H.below n)) belowK_t (belowK_b ac) (ajh _ _) (λ_=>rfl) (λc d=>(∃b,Boxed d a.heap.size 23 b/\d.ownsRow a.heap.size 3 1 b c.length (c.map (ahr .i64))/\(b=.slice bo 0 0↔c=[]))/\Below a.heap.size a d) (λ_ _ _=>b5) (OwnFrom.and (Own.from (holdsRow_own a.heap.size a.heap.size 23 3 1 (λc=>c.length) (λc=>c.map (ahr .i64)) (λc b=>b=.slice bo 0 0↔c=[])) _) (ownFrom_below (bd _) ac)) (λ_ _ _ _ _ N _ _=>N) ⟨⟨_,A,World.ownsRow_nil _ _ _ _,ac⟩,n⟩ (λj=>{tmps:=#[.slice bo 0 0,.func (.func 317) #[] #[.pointer (Y ⟨e,0,bo⟩)],.pointer (Y ⟨a.heap.size,0,bo⟩),bW,.slice bo 0 0,.int .i64 j,.func (.func 317) #[] #[.pointer (Y ⟨e,0,bo⟩)],.int .i64 j,bW,bW,bW,bW,bW],defers:=[]}) ?assign ?body ?done ?stop
 case assign=>
  intro T j d U i
  gi_wp2
  exact i
 case body=>
  rintro T c j d ⟨⟨b,l,k,x⟩,h⟩ a3;have o:=l.cell;have a0:f.length<=maxLen:=(by simp only[maxLen];omega);have an:f.length*8<=140737488355328:=by omega
  gi_wp2_with (gi_at_builtin;refine wpListIn_append_own _ rfl _ _ 23 bn a.heap.size 3 S (.int .i64 0) 1 8 alV J P Q R bn ab _ _ _ rfl (k.alloc _) ⟨d.heap.size,0,bo⟩ 1 1 [.int .i64 j] rfl rfl (cell_one_new _ _ _) (by simp[ahA]) aa aa (by have:=h.size;simp;omega) ?_;intro bl bs y I _;obtain⟨am,ad,rfl⟩:=ownsRow_succ y;obtain⟨z,O,L,K,v⟩:=l.appended ab k h.size (bd _) y I;have ap:=z.cell;have av:=z.frozen)
  exact⟨K.from _,v,⟨_,O,by simpa using L,ac⟩,h.trans v⟩
 case done=>
  rintro s bx d G rfl ⟨⟨b,l,k,x⟩,h⟩ i;have o:=l.cell
  gi_wp2
  refine⟨ac,.inl ⟨_,_,bn,run_takeDeferred i,?_⟩⟩;exact⟨_,results_tmp bn _ _ _,b,bn,ownsRow_putObj k _ i bn,x,h.trans (belowK_b (w:=a) (bd _) d s _ _ (by simp at G;omega) i bn rfl)⟩
 case stop=>
  rintro s V c d _ _ C _;exact C.elim
set_option maxHeartbeats 1000000 in
def TB (b:aie) (f:X) (m:b.fn 315) (k:b.fn 331) (l:b.fn 317) (j:b.round=bo) (v:4<=f) (e:X) (g:Value) (c:ahc) (s:c.length*8<=140737488351232) (a:bD) (n:e<a.heap.size) (q:a.cell? ⟨e,0,bo⟩=Y g) (o:pw a.heap.size a g c):ah6 b f cn 315 #[.func (.func 317) #[] #[.pointer (Y ⟨e,0,bo⟩)]] a λi h=>∃d,i=.returned d/\h.ownsRow a.heap.size 3 1 d c.length (c.map (ahr .i64))/\(d=.slice bo 0 0↔c=[])/\Below a.heap.size a h:=by
 have u:1<=f:=aa;refine aiV Tryz.func315 bn m ?_ j;simp only[Tryz.ntmps315,tK,jc,oK,aiv,aiw,vD,vE,vS,vM,iL,nW]
 gi_wp2_with (gi_at_call 331;refine(SJ b (f-1) k l j aa e g c s _ n q o).mono ?_;rintro i w ⟨d,rfl,t,r,p⟩)
 go_ret
 exact⟨d,bn,t,r,p⟩
open Go.jm
theorem abV {M:eD->X->Prop} {f:bD} {k:X} {j:Value} {b:ahc} (s:f.ownsRow k 3 1 j b.length (b.map (ahr .i64))):∃d,aS M f (.osl (.int .i64)) [j] b d/\d.Nodup/\∀h∈d,k<=h/\h<f.heap.size:=by
 rcases s.2 with⟨rfl,t⟩|⟨e,l,i,rfl,w,q,u,A,v,m⟩
 ·obtain rfl:=qx t;exact⟨[],⟨bo,0,bn,.inl ⟨bn,bn,bn,bn⟩⟩,ac,ac⟩
 rw[aiM] at v m;have o:∀a,a<l->f.cell? ⟨e,a,bo⟩=Y (i[a]?.getD bW)/\f.frozen? ⟨e,a,bo⟩=bq:=λa c=>(by constructor<;>simp[aio,ajM,q,(aa:a<i.size)]);refine⟨[e],⟨Y ⟨e,0,bo⟩,l,bn,.inr ⟨e,0,bJ b.length [],bn,ac,ac,u,λa _ c=>?_,λg z d r p=>?_⟩⟩,ac,λh n=>?_⟩
 ·obtain⟨ax,y⟩:=o a (by simpa[ahE] using c);exact⟨by rw[ax];rfl,y⟩
 ·have x:g<b.length:=(hJ.1 r).1;obtain rfl:d=[]:=by
   rw[List.getElem?_replicate] at p;split at p<;>simp_all
  refine⟨[.int .i64 z],bn,λa j c=>?_,bn,bn⟩;cases a with
  |succ a=>simp at c
  |zero=>
   simp only[qz,eU] at c;subst c;simp only[ahE,aiM,mS,mQ];rw[(o g aa).1];have:(i.toList.take b.length)[g]?=(b.map (ahr .i64))[g]?:=(by rw[m]);rw[tH x,AZ,jn,r] at this;rw[this];rfl
 simp only[gj] at n;subst n;exact⟨w,(rN.1 q).1⟩
def VR {o:eD->X->Prop} {n:bD} {i:Value} {a:ahc} {k:ahb} (g:aS o n (.osl (.int .i64)) [i] a k):(∃j b,i=.slice j 0 b/\a=[])\/∃c e b,i=.slice (Y ⟨c,e,bo⟩) a.length b/\a.length<=b/\Holds (ahr .i64) n c e a.toArray/\k=[c]:=by
 obtain⟨j,b,m,g⟩:=g;simp only[hP,b8] at m;subst m;rcases g with⟨rfl,rfl,rfl,rfl⟩|⟨c,e,f,rfl,rfl,A,s,t,l⟩
 ·exact .inl ⟨bo,0,bn,bn⟩
 right;have u:f.flatten=[]:=by
  rw[List.flatten_eq_nil_iff];intro C x;obtain⟨h,B,rfl⟩:=ho.1 x;obtain⟨r,_,_,y⟩:=l h (a[h]'(by omega)) f[h] ac ac
  exact y.1
 refine⟨c,e,b,bn,s,λd v=>?_,by rw[u]⟩;have w:d<a.length:=(by simpa using v);obtain⟨r,z,p,_,q⟩:=l d a[d] (f[d]'(by omega)) ac ac
 subst q;have ax:=p 0 _ rfl;simp only[ahE,aiM,mQ] at ax;exact⟨by rw[ax];simp[w],(t (e+d) aa (by simp only[ahE];omega)).2⟩
def FB (E:fy) (c:ahc->es):Prop:=∀b a,c b=Y a->rO E 316 [.m ⟨.osl (.int .i64),b⟩ a] []
set_option maxRecDepth 100000 in
set_option maxHeartbeats 2000000 in
def acO (i:aie) (h:∀e,i.fn e) (z:i.round=bo) (O:∀(ap:X) (e:FuncId) (v:ag3) (c:bD) (t:Ending->bD->Prop),Calls cn e v c t->ah6 i ap cn e v c t) {E:fy} (I:E.P=cn) {C:ahc->es} (am:FB E C) (k:X) (bl:5<=k) (m:X) (r:Value) (l s:ahc) (an:C l=Y s) (V:l.length*8<=140737488351232) (c:bD) (J:lg E (λb=>b<c.heap.size) c) (H:m<c.heap.size) (N:c.cell? ⟨m,0,bo⟩=Y r) (K:pw c.heap.size c r l):ah6 i k cn 296 #[.func (.func 317) #[] #[.pointer (Y ⟨m,0,bo⟩)]] c λp u=>∃g e D,p=.returned g/\aS D u (.osl (.int .i64)) [g] s e/\(∀b∈e,c.heap.size<=b)/\Below c.heap.size c u:=by
 have a4:1<=k:=aa;have bs:=h 315;have bx:=h 316;refine aiV Tryz.func296 bn (h _) ?_ z;simp only[Tryz.ntmps296,tK,jc,oK,aiv,aiw,vD,vE,vS,vM,iL,nW]
 gi_wp2_with (first
  |(
   gi_at_call 315;refine(TB i (k-1) (h _) (h _) (h _) z aa m r l V _ H N K).mono ?_;rintro p F ⟨g,rfl,A,T,d⟩
   obtain⟨e,U,S,o⟩:=abV (M:=bf (λ_=>b5) (λ_=>b5)) A;have n:=am l s an F (λb=>b<c.heap.size) (λ_=>b5) [g] [e] (λb a=>by rcases a with a|a;exact je a d.size;exact a.elim) ⟨⟨[g],bn,U⟩,trivial⟩ (by simpa using S) (λb d=>⟨Nat.not_lt.2 (o b (by simpa using d)).1,λa=>a,(o b (by simpa using d)).2⟩) True.intro (J.mono (λ_ a=>a) λb a=>d.block b a);rw[I] at n;have n:=O (k-1) _ _ _ _ n;clear A T)
  |(gi_at_call 316;refine n.mono ?_;rintro p a0 ⟨av,w,ce,B,rfl,f⟩))
 have Q:∃j,w=[j]:=by
  have:=f.args
  match w,this with
  |[j],_=>exact⟨j,bn⟩
  |[],a=>exact a.elim
  |_::_::_,a=>exact a.2.elim
 obtain⟨j,rfl⟩:=Q;obtain⟨a3,ao,y⟩:=f.args.1;have R:=y.len;obtain⟨G,rfl⟩:=qC.1 R;have ao:g=G:=ao;subst ao;have ad:B=[]:=by
  have:=f.res
  match B,this with
  |[],_=>rfl
  |_::_,a=>exact a.elim
 subst ad
 go_ret
 refine⟨g,j,_,bn,y,λb L=>?_,?_⟩
 ·have:=(f.Lo b (by simp[L])).2.2.2;rcases this with a|a
  ·exact dh d.size a
  exact(o b (by simpa using a)).1
 exact⟨f.os.trans d.os,f.tape.trans d.tape,f.output.trans d.output,dh d.size f.size,λq x=>(f.heap q (je x d.size) (λa=>by have:=(o q (by simpa using a)).1;omega)).trans (d.block q x)⟩
def TH {j:eD->X->Prop} {b:bD} {B:X} {i:Value} {e:ahc} {h:ahb} (n:aS j b (.osl (.int .i64)) [i] e h) (m:∀c∈h,B<=c) (r:e.length<=1000000):Calls cn 295 #[i] b (λf g=>∃d a,f=.returned (.slice d (ah5 e).length a)/\Below B b g):=by
 rcases VR n with⟨d,a,rfl,rfl⟩|⟨c,p,a,rfl,l,k,rfl⟩
 ·refine(Any.slices_Compact_int_empty Tryz.Nx d a b).mono ?_;rintro f g ⟨rfl,rfl⟩;exact⟨d,a,bn,ajh _ _⟩
 refine(Any.slices_Compact_int Tryz.Nx c p a e b k aa l).mono ?_;rintro f g ⟨rfl,s,rfl⟩;refine⟨_,a,bn,bn,bn,bn,by simp[putRow,mapBlock,alY],λo q=>?_⟩;have:=m c ac;simp[putRow,mapBlock,alY,Array.getElem?_modify,(aa:c≠o)]
set_option maxRecDepth 100000 in
set_option maxHeartbeats 2000000 in
def adr (g:aie) (i:∀k,g.fn k) (p:g.round=bo) (t:∀(S:X) (k:FuncId) (r:ag3) (a:bD) (q:Ending->bD->Prop),Calls cn k r a q->ah6 g S cn k r a q) {E:fy} (F:E.P=cn) {x:ahc->es} (O:FB E x) (j:X) (av:7<=j) (c:bv Addr) (b e:X) (f m:ahc) (R:x f=Y m) (N:f.length=b) (bl:f.length<=1000000) (Q:m.length<=1000000) (a:bD) (G:lg E (λd=>d<a.heap.size) a) (H:pw a.heap.size a (.slice c b e) f):ah6 g j cn 259 #[.slice c b e] a λh z=>h=.returned (.bool (br ((ah5 m).length<f.length)))/\Below a.heap.size a z:=by
 have ap:1<=j:=aa;have a0:=i 297;have a3:=i 296;have a4:=i 295;generalize M:(ah5 m).length=an;refine aiV Tryz.func259 bn (i _) ?_ p;simp only[Tryz.ntmps259,tK,jc,oK,aiv,aiw,vD,vE,vS,vM,iL,nW];have C:=alX a 23 (.slice c b e);have n:Below a.heap.size a (a.alloc (.cells #[.slice c b e] 23)):=(ajh _ a).alloc (bd _) _;have I:pw (a.alloc (.cells #[.slice c b e] 23)).heap.size (a.alloc (.cells #[.slice c b e] 23)) (.slice c b e) f:=by
  rcases H.below n with l|⟨d,T,D,h,o,L⟩
  ·exact .inl l
  exact .inr ⟨d,T,D,h,by simp;omega,L⟩
 have w:=acO g i p t F O (j-1) aa a.heap.size (.slice c b e) f m R aa _ (G.mono (λd (l:d<a.heap.size)=>je l n.size) λd l=>n.block d l) ac C.cell I
 gi_wp2_with (first
  |(gi_at_call 297;refine(adT g (j-1) (i _) p c b e a).mono ?_;rintro h bx ⟨rfl,rfl⟩)
  |(gi_at_call 296;refine w.mono ?_;rintro h y ⟨bs,k,U,rfl,v,u,o⟩;have s:=t (j-1) _ _ _ _ (TH (B:=a.heap.size) v (λd J=>by have:=u d J;simp at this;omega) Q);rw[M] at s;have A:Below a.heap.size a y:=n.trans (o.mono ac);clear v u o w)
  |(gi_at_call 295;refine s.mono ?_;rintro h V ⟨ad,am,rfl,K⟩))
 go_ret
 exact⟨by rw[N];rfl,A.trans K⟩
def ado (c:ahc->es):jF:=⟨259,[.v (.a6 .eE (.int .i64))],[.bool],λa=>(AS c a.1).map λb=>(b,())⟩
def adp {E:fy} (q:E.P=cn) {sort:ahc->es} (K:FB E sort):aI E (ado sort):=by
 refine⟨λg f=>by rw[q];exact Tryz.call259 g f,?_⟩;rintro⟨d,_⟩ b c;have w:(AS sort d).map (λb=>(b,()))=Y b:=c;obtain⟨B,e,rfl⟩:=fB.1 w;clear c w;unfold AS at e;cases l:b2 d.length 1000000 with
 |false=>rw[l] at e;cases e
 |true=>
 rw[l] at e;obtain⟨s,M,e⟩:=eO.1 e;cases m:b2 s.length 1000000 with
 |false=>rw[m] at e;cases e
 |true=>
 rw[m] at e;have c:br ((ah5 s).length<d.length)=B:=gD e;subst c;have l:=gV l;have m:=gV m;rintro f t A g k u h an am _hself;have h:mn (x6 t A f) [.v ⟨.a6 .eE (.int .i64),d⟩] g k:=h;obtain⟨p,j,rfl,rfl⟩:∃p j,g=[p]/\k=[j]:=by
  cases g with
  |nil=>exact h.elim
  |cons p g=>
   cases k with
   |nil=>exact h.elim
   |cons j k=>
    have a:=h.2;cases g with
    |nil=>cases k with
     |nil=>exact⟨p,j,bn,bn⟩
     |cons=>exact a.elim
    |cons=>exact a.elim
 obtain⟨⟨rfl,S,rfl,J⟩,_⟩:=h;obtain⟨_,o,i,rfl,ad,ap,I⟩:=J;have G:pw f.heap.size f (.slice o d.length i) d:=by
  rcases I with a|⟨b,O,rfl,H,L⟩
  ·exact .inl ⟨o,i,by rw[show d=[] from a];rfl,a⟩
  refine .inr ⟨b,O,i,bn,u b H,λy x=>?_⟩;obtain⟨U,T,C,_,D⟩:=L y d[y] (by simp[x]);subst D;have z:=C 0 _ rfl;simp only[ahE,aiM,mQ] at z;rw[z];simp[x]
 intro F;have a:=adr Fence.wide (λ_=>trivial) rfl (λN j R f Q a=>(callsIn_wide (n:=N)).2 a) q K 10 aa o d.length i d s M bn l m f (F.mono (λb a=>u b (.inl a)) λ_ _=>rfl) G;have a:=callsIn_wide.1 a;show Calls E.P 259 #[.slice o d.length i] f _;rw[q];refine a.mono ?_;rintro V av ⟨rfl,c⟩;refine⟨t,[[]],[[]],[.bool _],bn,⟨⟨bn,trivial⟩,⟨⟨[.bool _],bn,bn,bn⟩,trivial⟩,ac,ac,λ_ a=>a,λ_ a=>.inl a,c.size,c.os,c.tape,c.output,λb r=>.of_heap (c.block b r),λb r _=>c.block b r⟩⟩
end KH
end Go.Proofs
end
namespace Go.jm
variable{a:X}{b:Value}{c:bm hq}{d:bm ai}{e:Type}{f:bD}{g:Z}{h:bm ahj}{i:eD->X->Prop}{j:Func}{k:ahc}{l:X->Prop}
section
open Go.Proofs
open Tryz
abbrev fW:ai:=(.int .u32)
abbrev gw:ai:=(.a6 .bh fW)
abbrev da:ai:=(.st (.pr .bool (.pr gw .nil)))
abbrev aG:ai:=(.int .i64)
abbrev cZ:ai:=(.st (.pr .bool (.pr da (.pr aG .nil))))
abbrev g7:ai:=(.osl aG)
abbrev c6:ai:=(.int .u64)
abbrev Bg:ai:=(.st (.pr aG (.pr aG (.pr g7 (.pr g7 (.pr (.osl c6) .nil))))))
abbrev hf:ai:=(.a6 .bh aG)
abbrev fC:ai:=(.a6 .eE aG)
abbrev lU:ai:=(.a6 .eE c6)
abbrev mm:ai:=(.st (.pr aG (.pr aG (.pr fC (.pr fC (.pr lU .nil))))))
abbrev v8:ai:=(.st (.pr fC (.pr fC (.pr lU (.pr fC (.pr fC (.pr lU (.pr aG .nil))))))))
abbrev oV:ai:=(.st (.pr (.a6 .bh hf) .nil))
abbrev v7:ai:=(.st (.pr aG (.pr oV (.pr (.a6 .bh (.fw .bh cZ)) .nil))))
abbrev ml:ai:=(.st (.pr hf (.pr (.a6 .bh c6) .nil)))
abbrev Bk:ai:=(.st (.pr (.ptr .bh v7) (.pr g7 (.pr g7 (.pr (.osl c6) (.pr (.osl ml) (.pr aG .nil)))))))
abbrev Bl:ai:=(.st (.pr hf (.pr hf (.pr (.a6 .bh c6) (.pr hf (.pr hf (.pr (.a6 .bh c6) (.pr aG .nil))))))))
abbrev r6:ai:=(.osl cZ)
abbrev FI:ai:=(.osl r6)
abbrev vY:ai:=(.pr FI .nil)
abbrev KI:ai:=(.st (.pr aG (.pr aG (.pr r6 .nil))))
abbrev KJ:ai:=(.st (.pr g7 (.pr g7 (.pr (.osl c6) (.pr g7 (.pr g7 (.pr (.osl c6) (.pr aG .nil))))))))
abbrev n3:ai:=(.st (.pr aG (.pr aG (.pr c6 .nil))))
abbrev yv:ai:=(.osl .bool)
abbrev r4:ai:=(.optr (.st (.pr g7 (.pr aG (.pr yv vY)))))
abbrev oU:ai:=(.st (.pr aG (.pr aG (.pr fC (.pr aG .nil)))))
abbrev kz:ai:=(.ptr .eE (.st (.pr fC (.pr aG (.pr (.a6 .eE .bool) (.pr (.a6 .eE (.a6 .eE cZ)) .nil))))))
abbrev KK:ai:=(.st (.pr g7 (.pr (.osl c6) (.pr hf (.pr (.osl (.osl c6)) .nil)))))
abbrev FC:ai:=(.st (.pr g7 (.pr hf (.pr (.a6 .bh c6) (.pr g7 (.pr g7 (.pr (.osl c6) (.pr aG .nil))))))))
abbrev vZ:ai:=(.st (.pr aG (.pr aG (.pr hf (.pr hf (.pr (.a6 .bh c6) .nil))))))
abbrev R7:ai:=(.optr (.st (.pr hf (.pr aG vY))))
abbrev lT:ai:=(.st (.pr (.a6 .eE fC) .nil))
abbrev r5:ai:=(.st (.pr da (.pr da .nil)))
abbrev Bf:ai:=(.st (.pr aG (.pr aG (.pr aG .nil))))
abbrev KL:ai:=(.osl (.st (.pr aG (.pr aG (.pr g7 (.pr aG .nil))))))
abbrev R8:ai:=(.optr (.st (.pr g7 (.pr aG vY))))
abbrev FD:ai:=(.st (.pr fC (.pr aG (.pr (.a6 .eE (.a6 .eE cZ)) .nil))))
abbrev v2:ai:=(.osl yv)
abbrev v5:ai:=(.st (.pr g7 (.pr (.osl c6) .nil)))
abbrev nj:ai:=(.a6 .bh cZ)
abbrev mT:ai:=(.osl fW)
abbrev FE:ai:=(.st (.pr hf (.pr (.a6 .bh c6) (.pr hf (.pr (.a6 .bh (.a6 .bh c6)) .nil)))))
abbrev R9:ai:=(.optr cZ)
abbrev qI:ai:=(.st (.pr .bool (.pr da (.pr aG (.pr .bool .nil)))))
abbrev FF:ai:=(.st (.pr aG (.pr aG (.pr nj .nil))))
abbrev Bh:ai:=(.ptr .bh (.st (.pr hf (.pr aG (.pr (.a6 .bh .bool) (.pr (.a6 .bh nj) .nil))))))
abbrev Sa:ai:=(.optr Bg)
abbrev Sb:ai:=(.ptr .bh da)
abbrev Bi:ai:=(.st (.pr (.osl hf) .nil))
abbrev Sc:ai:=(.optr da)
abbrev KM:ai:=(.a6 .bh (.st (.pr aG (.pr aG (.pr hf (.pr aG .nil))))))
abbrev Sd:ai:=(.ptr .bh cZ)
abbrev pJ:ai:=(.osl n3)
abbrev Se:ai:=(.optr (.st (.pr aG (.pr oV (.pr (.osl (.mp cZ)) .nil)))))
abbrev FG:ai:=(.st (.pr hf (.pr aG (.pr (.a6 .bh nj) .nil))))
abbrev Sf:ai:=(.st (.pr aG (.pr aG (.pr (.a6 .eE cZ) .nil))))
abbrev Sg:ai:=(.optr KI)
abbrev FH:ai:=(.optr (.st (.pr v2 (.pr yv .nil))))
abbrev Sh:ai:=(.osl (.osl r5))
abbrev Si:ai:=(.ptr .bh mm)
abbrev Sj:ai:=(.st (.pr fC (.pr lU (.pr fC (.pr (.a6 .eE lU) .nil)))))
abbrev mU:ai:=(.a6 .eE oU)
abbrev Sk:ai:=(.optr KJ)
abbrev Sl:ai:=(.optr Bf)
abbrev Bj:ai:=(.ptr .bh lT)
abbrev Sm:ai:=(.optr KK)
abbrev Sn:ai:=(.ptr .bh v8)
abbrev KN:ai:=(.osl nj)
def tt:bm (X×ai):=[(3,aG),(4,.bool),(5,(.int .u8)),(9,.str),(22,(.a6 .bh c6)),(23,hf),(24,(.a6 .bh c6)),(26,vZ),(27,KM),(31,Bl),(41,c6),(42,c6),(46,Bf),(50,nj),(52,FF),(55,(.a6 .bh nj)),(56,gw),(58,da),(60,cZ),(63,(.a6 .bh (.a6 .bh da))),(85,(.a6 .bh hf)),(87,oV),(88,(.a6 .bh (.fw .bh cZ))),(90,v7),(93,(.st (.pr aG (.pr aG (.pr hf (.pr aG .nil)))))),(96,(.a6 .bh ml)),(98,(.st (.pr (.ptr .bh v7) (.pr hf (.pr hf (.pr (.a6 .bh c6) (.pr (.a6 .bh ml) (.pr aG .nil)))))))),(99,(.a6 .bh (.a6 .bh Bh))),(100,Bh),(103,(.a6 .bh Bh)),(107,(.a6 .bh FG)),(108,(.a6 .bh FE)),(110,FG),(114,(.a6 .bh (.a6 .bh c6))),(116,FE),(127,(.a6 .bh (.a6 .bh .bool))),(129,c6),(130,(.a6 .bh .bool)),(142,(.a6 .bh (.a6 .bh r5))),(148,r5),(149,(.a6 .bh r5)),(152,(.a6 .bh da)),(158,fW),(163,(.fw .bh cZ)),(182,(.st (.pr hf (.pr aG (.pr (.a6 .bh .bool) (.pr (.a6 .bh nj) .nil)))))),(191,ml),(202,(.a6 .bh n3)),(205,n3),(234,(.a6 .bh (.a6 .bh .bool))),(259,(.st (.pr (.a6 .bh (.a6 .bh .bool)) (.pr (.a6 .bh .bool) .nil)))),(288,(.fn 0 .nil)),(321,qI),(323,c6)]
def Q5:∀a b,aq tt a=Y b->fi cn b a:=Q6 (by kernel_rfl)
def E:fy:={P:=cn,tt:=tt,ok:=Q5,mix:=by kernel_rfl,glob:=[⟨0,301,.u8,pR⟩],gok:=VC Q5 (S:=5) (by kernel_rfl) (by kernel_rfl),eqs:=[46],eqok:=Mu (by kernel_rfl)}
def J4:bm ai:=[g7,R9,mT,cZ,da,Sa,Sc,.bool,r6,R7,c6,Sb,v2,pJ,Sd,r4,Sg,R8,FI,Sk,Sl,yv,Sm,Si,KL,Sh,Bg,KN,gw,(.optr Bl),(.optr Bi),(.optr v5),(.optr FC),Bl,Sn,vZ,Bj,(.optr Bk),KI,(.optr oV),(.osl c6),oV,hf,(.optr vZ),Bf,v5,(.optr FF),FF,Se,(.ptr .bh oU),(.optr g7),(.osl FE),KM,(.optr r5),FH,(.optr mm),nj,(.osl FG),(.optr FI),(.osl hf),(.optr hf),(.st (.pr g7 (.pr aG vY))),(.ptr .bh FD),(.osl (.a6 .bh da)),(.ptr .bh r5),r5,Bi,(.mp cZ),(.ptr .bh qI),ml,(.osl (.osl Bh)),(.st (.pr hf (.pr aG vY))),KK,(.osl lU),(.ptr .bh Sf),n3,(.optr c6),(.optr oU),(.ptr .bh aG),(.optr ml),FC,(.optr FD),KJ,(.osl da),(.osl r5),fW,(.a6 .bh n3),(.ptr .bh n3),(.optr aG),aG,oU,qI,(.ptr .bh .nil),(.osl ml),(.a6 .bh ml),(.ptr .bh Sj),(.a6 .bh nj),(.a6 .bh (.a6 .bh .bool)),(.st (.pr aG (.pr aG (.pr g7 (.pr aG .nil))))),(.a6 .bh hf),(.ptr .bh v7),(.osl (.mp cZ)),(.ptr .bh mU),(.st (.pr g7 (.pr aG (.pr yv vY)))),Bk,FD,(.osl (.osl c6)),(.a6 .bh c6)]
def aN {h:hu c->bv (iS c (lD d))} (i:yu E) (e:X) (g:E.P.funcs[a]?=Y j) (f:(j.body.isSome&&b2 c.length j.ntmps)=bp:=by kernel_rfl) (l:(j.name=="runtime.NumGoroutine")=bq:=by kernel_rfl) (k:∀b,zS ⟨E.tt,i.1,(Jk J4 e).2.1,j.ntmps,j1 0 c++nP (jC 0 c),[],(Jk J4 e).2.2,jC 0 c,[],[],E.glob,E.eqs⟩ ((Jk J4 e).1.ex (j.body.getD .skip)) (j.body.getD .skip) c j.results.toList d b=h b:=by intro b;kernel_rfl):aI E ⟨a,c,d,h⟩:=
 aI.q i _ g (Tj g l (by have:=f;simp only[cC] at this;exact this.1)) _ _ f k
def Eh:aI E ⟨16,[.v aG,.v aG],[aG],uv⟩:=aN aO 0x60d func16
def I5:aI E ⟨55,[.v lU,.v aG],[c6],uw⟩:=aN (ar Eh aO) 0x7a1e9b060d func55
def En:aI E ⟨28,[.v c6],[.bool],pY⟩:=aN aO 0xd func28
def Aj:aI E ⟨229,[.v gw],[mT],mq⟩:=aN aO 0x2082c821ab266d7f4b3435b0c101a28f318a51a6c0d func229
def xF:aI E ⟨227,[.v .bool,.v gw],[da],lZ⟩:=aN (ar Aj aO) 0x1830070321200d func227
def IS:aI E ⟨156,[.v aG],[da],sr⟩:=aN (ar xF aO) 0xf8130f0123de5733a6c0d func156
def Eg:aI E ⟨155,[.v da],[da],pX⟩:=aN (ar xF aO) 0x10558600d func155
def Es:aI E ⟨77,[],[cZ],uy⟩:=aN aO 0x608 func77
def uQ (a:Z):gU:=⟨E.tt,[],[],14,[0]++(j1 0 [.v fW]++nP (jC 0 [.v fW])),[(0,.val fW a)]++[],[],jC 0 [.v fW],[],[],E.glob,E.eqs⟩
noncomputable def sP:Code:=Tryz.f237.body.getD .skip
def uR:bU Oper:=(ve 3 sP).getD #[]
def H3:md:=.two .none (.leaf) (.two .none (.two .none (.leaf) (.leaf)) (.leaf))
def DT:md:=.keep [0] (.two .none (.leaf) (.two .none H3 (.two .none (.leaf) (.leaf))))
def xj (a:Z):aM:=⟨[(4,.val .bool (a==0)),(3,.val fW a),(2,.val aG 0),(0,.val fW a)],[]⟩
def H2 (a:Z):b4->aM->bv (iS [.v fW] (lD [.int .i64])):=MH E.tt [.v fW] [.tmp 2] [.int .i64] (a,())
def Wm:sP=.seq (ES sP) (.seq (ES (Qo sP)) (.seq (.region 3 uR bq) .ret)):=by kernel_rfl
def Wp:uR.size=10:=by kernel_rfl
def Wn (a:Z) (b:b4->aM->bv e) (c:aM->bv e):hM (uQ a) .leaf (ES sP) ⟨[(0,.val fW a)],[]⟩ e (AK (λd=>hM (uQ a) H3 (ES (Qo sP)) d e (AK c b)) b)=bif a==0 then b .ret ⟨(2,.val aG 32)::(xj a).g,[]⟩ else c (xj a):=by kernel_rfl
def Wj (a:Z) (b:aM->bv e):kZ (uQ a) uR [0,1,2,3,4] (xj a) b=b ⟨(9,.val fW (cb.wrap (ey cb a (cb.wrap (0-a))*125613361)))::(8,.val fW (ey cb a (cb.wrap (0-a))))::(7,.val fW (cb.wrap (0-a)))::(6,.val fW a)::(5,.val fW a)::(xj a).g,[]⟩:=by kernel_rfl
def Wk (a c d b:Z):kZ (uQ a) uR [5,6,7,8,9] ⟨(9,.val fW b)::(8,.val fW c)::(7,.val fW d)::(6,.val fW a)::(5,.val fW a)::(xj a).g,[]⟩ (H2 a .ret)=(eM cb b 27).bind λe=>(al pR e).bind λf=>Y (bK.wrap f,()):=by kernel_rfl
def Wq (a:Z):H2 a .ret ⟨(2,.val aG 32)::(xj a).g,[]⟩=Y ((32:Z),()):=by kernel_rfl
def Wo (a:Z) (c:hu [.v fW]) (f g:cr) (b:b4->aM->bv e) (h:c=(a,())):hM ⟨E.tt,[],[],14,j1 0 [.v fW]++nP (jC 0 [.v fW]),[],[],jC 0 [.v fW],[],[],E.glob,E.eqs⟩ DT (.seq f (.seq g (.seq (.region 3 uR bq) .ret))) ⟨ns 0 [.v fW] c,nt 0 [.v fW] c⟩ e b=hM (uQ a) .leaf f ⟨[(0,.val fW a)],[]⟩ e (AK (λd=>hM (uQ a) H3 g d e (AK (λd=>kZ (uQ a) uR (bH uR.size) d (b .ret)) b)) b):=by subst h;rfl
def Wl (b:hu [.v fW]):zS ⟨E.tt,[],[],14,j1 0 [.v fW]++nP (jC 0 [.v fW]),[],[],jC 0 [.v fW],[],[],E.glob,E.eqs⟩ DT sP [.v fW] [.tmp 2] [.int .i64] b=wL b:=by obtain⟨a,⟨⟩⟩:=b;show hM _ DT sP _ _ (H2 a)=_;rw[Wm,Wo a _ _ _ _ rfl,Wn,Wp,show bH 10=[0,1,2,3,4]++[5,6,7,8,9] from rfl,HP,Wj,Wk,Wq];exact Eq.refl (bif a==(0:Z) then Y ((32:Z),()) else(eM cb (cb.wrap (ey cb a (cb.wrap (0-a))*125613361)) 27).bind λc=>(al pR c).bind λd=>Y (bK.wrap d,()))
def RF:jF:=⟨237,[.v fW],[aG],wL⟩
def OY:aI E RF:=
 aI.of (fn:=Tryz.f237) (rs:=[.tmp 2]) [] [] [] DT func237 (by kernel_rfl) (by kernel_rfl) (by kernel_rfl) call237 QX (by intro a;exact Wl a)
def OD:aI E ⟨160,[.v da],[aG],qZ⟩:=aN (ar OY (ar Aj aO)) 0xfff03f421b60061aa16f0a6c0d func160
def OE:aI E ⟨161,[.v da],[da],qY⟩:=aN (ar xF aO) 0x10558600d func161
def Y6:aI E ⟨233,[.v gw,.v aG],[mT],wQ⟩:=aN aO 0x53d01391bde7118d0ac7d3ef9214db060d func233
def OX:aI E ⟨234,[.v gw,.v aG],[mT,.bool],wR⟩:=aN aO 0xae324cae5979e8e0fe3c42bc0032316c0fa33799a98d35177a6226ce541ba6f9a5312616247cec1866b350374658d682429b060d func234
def OH:aI E ⟨165,[.v da],[da],zi⟩:=aN (ar xF aO) 0x10558600d func165
def Y3:aI E ⟨230,[.v gw,.v gw],[mT],CQ⟩:=aN aO 0x41f880420be0ec3b4b01fad20a17d5a9cdab20ad391bde7118d0ac7d3ef9214db060d func230
def Y4:aI E ⟨231,[.v gw,.v gw],[aG],zj⟩:=aN aO 0x620a429b060d func231
def Y5:aI E ⟨232,[.v gw,.v gw],[mT],zk⟩:=aN aO 0x2bfb002c07ff882a23ead4e6d590569c77118d0ac7d3ef9214db060d func232
def IQ:aI E ⟨153,[.v da,.v da],[da],sq⟩:=aN (ar Y5 (ar Y4 (ar Y3 (ar Aj (ar xF aO))))) 0x87eec45f48a50c4d35ea5dbd0327ba273d8d7d9851599a1b93c028393a4a49226da742b0e4b5741c7d1a4425335b38ac9ddf6ec6d73aa14fbcfefe8f838d623e950613abe741d88d1c5709c0f41a3bd5b492627075fd81041753060d func153
def Yw:aI E ⟨159,[.v da,.v da],[da],wP⟩:=aN (ar OH (ar IQ aO)) 0x5e73c6ad8004bcf2b753060d func159
def IR:aI E ⟨154,[.v da,.v aG],[da],n9⟩:=aN (ar OX (ar Y6 (ar xF (ar Yw (ar IS (ar Eg aO)))))) 0x657a928fb28058de5154418953bd06329486eca3a7945218b305d21ce9d76312700b99aa9feb8968fe29e0c2b7cc5630429aa70f4b3f0612bdd729b060d func154
def OF:aI E ⟨162,[.v da,.v aG],[da],wU⟩:=aN (ar IR aO) 0x12a206e95ad94ccb18d26e4798ccc8a34c0d func162
def I2:aI E ⟨238,[.v fW],[aG],wK⟩:=aN aO 0x2b42385dc039ada07d3 func238
def OG:aI E ⟨163,[.v da],[aG],ux⟩:=aN (ar I2 (ar Aj aO)) 0x1870070758600d func163
def Ak:aI E ⟨78,[.v da,.v aG],[cZ],o3⟩:=aN (ar Es (ar OG (ar OF (ar OE (ar OD (ar Eg aO)))))) 0x963e283b401bc6a47f500e722ae4a11b67b635a8a6db6db060d func78
def aas:aI E ⟨96,[.v aG],[cZ],wS⟩:=aN (ar Ak (ar IS aO)) 0x18a00d func96
def Er:aI E ⟨74,[.v cZ],[cZ],mr⟩:=aN (ar Ak (ar Es aO)) 0xc570600d func74
def Ep:aI E ⟨72,[.v da],[aG],mY⟩:=aN (ar Eg aO) 0xd func72
def O2:aI E ⟨251,[.v .bool,.v c6],[c6],q0⟩:=aN aO 0x60d func251
def Y9:aI E ⟨248,[.v .bool,.v aG],[c6],zm⟩:=aN (ar O2 aO) 0x8a2dc93060d func248
def ZA:aI E ⟨288,[.v da,.v aG],[.bool],zh⟩:=aN (ar OX (ar Aj aO)) 0x2990006591f2c01c2d628060d func288
def ZB:aI E ⟨289,[.v .bool,.v aG,.v .bool,.v aG],[.bool],CU⟩:=aN aO 0xe2860d func289
def Za:aI E ⟨249,[.v .bool,.v da,.v aG,.v .bool,.v aG],[da],CS⟩:=aN (ar Ep (ar ZB (ar ZA (ar OF (ar OD (ar IS (ar IQ aO))))))) 0x4841b1f4c951b3668961efe0046ea6adac908c330f1e6893f358452583050a227323b3c816a80161d792bca935c86b039431f0d9047b5c98b2fe17e6a536c48e2860d func249
def Zb:aI E ⟨250,[.v da],[aG,.bool],CP⟩:=aN (ar Eg aO) 0x6ce369aa2348940f9bc72429b6c0d func250
def YB:aI E ⟨181,[.v .bool,.v da,.v aG,.v .bool,.v aG],[c6],zn⟩:=aN (ar O2 (ar Zb (ar Za (ar Y9 (ar OG (ar IR aO)))))) 0x2cd3add023f828516648d1039f3c84d19dcc4db6c48e2860d func181
def aat:aI E ⟨99,[.v cZ,.v aG],[c6],zl⟩:=aN (ar Er (ar Ep (ar YB (ar OE aO)))) 0x19da5495bdf3e1e25d606f1bd81ea02760dd565cb46a6db060d func99
def Y1:aI E ⟨221,[.v aG,.v aG],[c6],CV⟩:=aN (ar aat (ar aas aO)) 0x60d func221
def Ys:aI E ⟨144,[.v c6],[c6],GB⟩:=aN (ar Y1 aO) 0xd func144
def aal:aI E ⟨58,[.v c6,.v aG],[c6],wO⟩:=aN (ar En (ar Eh (ar Ys aO))) 0x60d func58
def YY:aI E ⟨217,[.v lU],[.bool],CX⟩:=aN (ar En aO) 0x30a5214c0d func217
def IN:aI E ⟨133,[.v mm],[aG],q1⟩:=aN (ar YY aO) 0xdd7ff49089a231007afee5752252d7622a0dbbe989d68087900b4c0d func133
def aao:aI E ⟨79,[.v c6],[.bool],CW⟩:=aN aO 0xd func79
def Zt:aI E ⟨27,[.v c6],[cZ],j3⟩:=aN (ar aao (ar Ak (ar Es (ar En aO)))) 0xb408ac93c00cf40f9bcce9b6c0d func27
def YA:aI E ⟨18,[.v lU,.v aG],[hf],CL⟩:=aN (ar I5 (ar Eh aO)) 0x234ec7fd89867c4437f42bce11987e021f92218c37bd4e5bee93d36ad1574e1189dd0058e85a1536b71dbe925704be32809846be9bf06b27a6e88228e95f2d642f65464c965222429b060d func18
def Oz:aI E ⟨134,[.v mm],[pJ],zo⟩:=aN (ar IN aO) 0xfef023d260ad6452e7260cf4f48a8d7162a9b99f4bacd37e17178bb3f493cb5e0eaea4879c5f018bbb47e69cbd7bc50fe8bb0c11d96cd7f708e754d2990578536c0d func134
def Yn:aI E ⟨135,[.v aG,.v aG,.v (.a6 .eE n3)],[Bg],CY⟩:=aN aO 0x371ff193cf3fc0cfa1ec98b307b3cbf2d6fa702fc971a6f1f888186cacebc9f94f755502e7a86885ecf97108422cf8c7ae7e63cea7efbf91c939942949dd4fea69c14e5839cdd4a34be939203e47f66450564cd6d2e720d4b74ab61df1649acbb487a9e98b15c332d335c5ac269e43b625815c8c0cdf6be770e1d5ca48536c2860d func135
def aag:aI E ⟨51,[.v mm],[vZ,aG],sw⟩:=aN (ar Yn (ar Oz (ar IN aO))) 0xf150cdfe5fe3a923bcd72fea59a722058eaacb1254ce4166d1c772db8cc8e784be87ac5ecd2272bc29b6c0d func51
def OA:aI E ⟨136,[.v aG],[v2],zr⟩:=aN aO 0xdfc82467e0d9fb84722a694c90a6c0d func136
def OB:aI E ⟨137,[.v (.a6 .eE (.a6 .eE .bool))],[Bi],zp⟩:=aN aO 0x2fa291a1920f6ec8c280bc232e3965453e53d6c324c10abd6cc97b98d778430dac0269ceedd3dd9d281659a5cdefa49bf489d1800774521ac312d619e7e33cb5c33230451508a1e694b3490a6c0d func137
def aah:aI E ⟨52,[.v mm],[oV,aG],sx⟩:=aN (ar OB (ar OA (ar Oz (ar IN aO)))) 0x6cf78da74f226906f4ea204e6f85ca6b4eb16595fcf7eb4861a59d716cb636ae5b71991c9091d0f58bd9a451e14db6c0d func52
def YX:aI E ⟨212,[.v fC],[.bool],zf⟩:=aN aO 0x30a5214c0d func212
def OT:aI E ⟨214,[.v fC,.v aG],[.bool],sp⟩:=aN aO 0xc414853060d func214
def IP:aI E ⟨138,[.v lT],[aG],uz⟩:=aN (ar OT (ar YX aO)) 0x21b3ec802cac4b24b608f396b0c3542a578536c0d func138
def Yo:aI E ⟨139,[.v fC,.v aG],[.bool],CN⟩:=aN aO 0xd89480d660c5e9f759579d61bf8532f9214db060d func139
def YZ:aI E ⟨218,[.v fC,.v aG],[.bool],CZ⟩:=aN aO 0x4f6b0c414853060d func218
def Y0:aI E ⟨219,[.v fC],[.bool],C0⟩:=aN (ar OT aO) 0x30a5214c0d func219
def OU:aI E ⟨220,[.v lT],[v2],zq⟩:=aN aO 0xb703efaaa9936cfb20a10e668944cb1d7bbc4ba8b9a6bd8625b2d4652391b40b242a578536c0d func220
def Yp:aI E ⟨140,[.v lT,.v fC],[oV,aG],C1⟩:=aN (ar OU (ar Y0 (ar YZ (ar IP (ar OB (ar OA aO)))))) 0x1c6a8d6b90b7d9b4a14910fa08291137b6378284e37216ceb0a252989437ace3f34a19308f1a6ddc4598817dd8fbd12093b2d9732d5d489452393323a36e1c3648bbc29b6db060d func140
def aai:aI E ⟨53,[.v lT,.v fC],[oV,aG],q2⟩:=aN (ar Yp (ar Yo (ar IP aO))) 0x1bc2423828060d func53
def Yq:aI E ⟨141,[.v lT],[FH],C2⟩:=aN (ar OU aO) 0x4ca507872a7daa731a2232cab0fd68412cdb299cf06a9b3733afa94e51321d3ffc580b32e81d4c0d func141
def OC:aI E ⟨142,[.v (.ptr .eE (.st (.pr (.a6 .eE (.a6 .eE .bool)) (.pr (.a6 .eE .bool) .nil)))),.v aG],[g7],zu⟩:=aN aO 0x37b000383e5fe082858959575560c7711810a65f2429b060d func142
def Yr:aI E ⟨143,[.m FH,.v aG],[],zt⟩:=aN (ar OC aO) 0x10b27fa69338092a4b941ed211787e1ab7e378c6572663404371af2155fa3e0af9c3200e80ea256f3568ed84a33a765ade3c24123285034082439e14c1d func143
def aaj:aI E ⟨54,[.v lT],[(.osl hf),aG],zv⟩:=aN (ar Yr (ar OC (ar Yq (ar IP aO)))) 0xfc11063dcb87bbaa7f1b023ddd77232fd2750a42b1937c82bc29b6c0d func54
def Ym:aI E ⟨13,[.v mm,.v fC,.v lU],[KL],ze⟩:=aN (ar I5 (ar aaj (ar aai (ar aah (ar aag aO))))) 0xb84d09814cb6d4647c12a16f58aadc57e142c0551a3acf0dcb222d39d5c4a9ba193d41e123cf43ce0f83692017bbfb59a59df8fdcb84f68a1d765e310b27c1368e60c868da2d735c6a4c7c7b8a9c4b64aee2f9dbe0b39efeee53de6b7d1c218e2585fc3332690c08f0961b323db7a2d5d8eccb14da8df8e11887ef90e36a0d9979908fa5799a09dc2faf449786faf32dc30ff0c2d34f28886c0f1104c5b0480a2e56620f2b6ac48e5ad31eea72125e4bc29b6db6c2860d func13
def YC:aI E ⟨182,[.v aG,.v aG,.v aG],[.bool],Cw⟩:=aN aO 0x2860d func182
def OS:aI E ⟨211,[.v aG],[.bool],si⟩:=aN aO 0xd func211
def IZ:aI E ⟨200,[.v aG,.v aG],[.bool],ug⟩:=aN (ar OS aO) 0x60d func200
def Zc:aI E ⟨252,[.v fC],[.bool],CD⟩:=aN (ar IZ aO) 0x30a5214c0d func252
def YD:aI E ⟨183,[.v mm],[.bool],Cu⟩:=aN (ar Zc aO) 0xc4e38401d66b93f29e80930b3bf78f127d54e40fbd6eac4b248cdff8c5060d1e00b4c0d func183
def IX:aI E ⟨194,[.v c6],[aG,c6],wC⟩:=aN aO 0xd func194
def u6:aI E ⟨147,[.v c6],[.bool],nz⟩:=aN (ar IX aO) 0xd func147
def YF:aI E ⟨185,[.v c6],[.bool],Gr⟩:=aN (ar u6 aO) 0xd func185
def Zd:aI E ⟨253,[.v lU,.c 185 []],[aG],Gt⟩:=aN (ar YF aO) 0x3195177853060d func253
def YE:aI E ⟨184,[.v lU,.c 185 []],[.bool],Cx⟩:=aN (ar Zd aO) 0x60d func184
def Ef:aI E ⟨101,[.v mm],[aG],so⟩:=aN (ar YD (ar YC (ar YE aO))) 0x67b600800a7b34c0d func101
def X3:aI E ⟨102,[.v fC,.v aG],[g7,.bool],Dd⟩:=aN aO 0x24ba7e56d00a13fd1c6e649549b74dff84c188d32f8afd54b1020cf3dcc1d7726fed04fe9ab949db0f0a6db060d func102
def OM:aI E ⟨186,[.v mm],[pJ],wM⟩:=aN aO 0xffa42fc666439e93c588aef5307a40487df8decb96c7d388140c83212c38c63dac169e0af80c5dda3f34e5ebde287f45d879e23ce5ba6bfb8473aac94c8b4af0a6c0d func186
def ZD:aI E ⟨290,[.v (.a6 .eE n3)],[pJ],Gs⟩:=aN aO 0x68a00d func290
def IM:aI E ⟨122,[.v aG,.v aG],[aG],uf⟩:=aN (ar OS aO) 0x60d func122
def ZF:aI E ⟨293,[.v fC],[aG],BI⟩:=aN aO 0x632a2d9d6f0a6c0d func293
def Pa:aI E ⟨292,[.v n3,.v n3],[aG],wN⟩:=aN (ar ZF (ar IM aO)) 0x44484baca6d40def2b0df6a0133753060d func292
def ZX:aI E ⟨329,[.m pJ,.v aG,.v aG,.c 292 []],[],zd⟩:=aN (ar Pa aO) 0x1fdca31dde7cb0d8bf34bc3c1d304081ba01abde156dcc56a12968308e8d4d148233fc240beae1c265119b1fcee01a7912ec06fb61d06a528c369ed21e670c0613412180c2c38a1d func329
def ZY:aI E ⟨330,[.m pJ,.v aG,.v aG,.v aG,.c 292 []],[],CK⟩:=aN (ar Pa aO) 0x618d4d1092b124cd52f05993a6e2203a40c66b8b14bd9add5ea5af44781cf15546dae1a825886c2242b82dc7ebc6c7ab7ca64629fd4829c93800280de8bcc5ca1238a1d func330
def ZN:aI E ⟨314,[.m pJ,.v aG,.c 292 []],[],GA⟩:=aN (ar ZY (ar ZX aO)) 0x37989f703c821cbbc5f48089b3c0428d79ba2d5bd4a208b73ed8741a93cb0db19d4a09848e70d93620914769b0a1d func314
def ZE:aI E ⟨291,[.m pJ,.c 292 []],[],Gy⟩:=aN (ar ZN aO) 0x1d func291
def Ze:aI E ⟨254,[.v (.a6 .eE n3)],[pJ],Cv⟩:=aN (ar ZD (ar ZE aO)) 0x0 func254
def YG:aI E ⟨187,[.v aG,.v aG,.v (.a6 .eE n3)],[Bg],Ct⟩:=aN (ar Ze aO) 0x959d45da31ed7102809b9a0142053dc3f335aaee3b3355322320a652b1454f9e264022e136aa17af72e9088f5dbbd5332351d063bfd0f6d35eac33b7abac4c38a38504bc0fac0b2f6f07869dc2f816bcd5c9b5f959c9031e7f90692baab0b010c0f72fb6bd57bf8332d723fb3cbf7683cee3680f113a5618198a33039496922ae51ed9585e0a97f9af0bc7eee3ea155817ed8e712dcef21db00ae4745efb5f3faaceae5276f0a6c2860d func187
def X4:aI E ⟨103,[.v mm],[vZ,aG],Cs⟩:=aN (ar YG (ar OM (ar Ef aO))) 0x1df4337f97f3c33500e9d4b34e440b6203aab2c6b1d5349e5d368e3b96dc664743c784be87e89adecd2632bc29b6c0d func103
def ON:aI E ⟨188,[.v aG],[v2],yV⟩:=aN aO 0xc169ba8367ee11c8ab853234f0a6c0d func188
def YH:aI E ⟨189,[.v mm],[pJ],Cr⟩:=aN (ar OM (ar Ef aO)) 0x345b8600d func189
def OO:aI E ⟨190,[.m v2,.v aG,.v aG],[],yY⟩:=aN aO 0x1b90811b875b96fba90abaafbe04f9b237bf78113530a1d func190
def Zf:aI E ⟨255,[.v (.a6 .eE (.a6 .eE .bool)),.v aG],[g7],BU⟩:=aN aO 0x948004acb192e60c7711810d05f24c1bc29b060d func255
def OP:aI E ⟨191,[.v (.a6 .eE (.a6 .eE .bool))],[Bi],yX⟩:=aN (ar Zf aO) 0x19b0646c8aac2424bc2bfce5b728325d2f1d7610c5e59c1ac58db9c2ae34926b4bfe5b98679f8cf2d70cc8c114542287c452cd240f0a6c0d func191
def X5:aI E ⟨104,[.v mm],[oV,aG],yU⟩:=aN (ar OP (ar OO (ar YH (ar ON (ar Ef aO))))) 0x1cf822550ff7d77877ce66f6c1b636ae5b7199653012123a1e02ab737b34a9bc29b6c0d func104
def YM:aI E ⟨197,[.v fC,.v aG],[.bool],BV⟩:=aN aO 0x13f44846cbb9863e60a39d3c29b060d func197
def YP:aI E ⟨201,[.v aG],[.bool],CH⟩:=aN aO 0xd func201
def IL:aI E ⟨113,[.v fC,.v aG],[aG,.bool],us⟩:=aN (ar YP (ar IZ aO)) 0x1098cc9b28a3b4db060d func113
def OQ:aI E ⟨198,[.v lT,.v aG,.v aG],[.bool],wD⟩:=aN (ar IL aO) 0x8e0e02860d func198
def Ox:aI E ⟨107,[.v lT],[aG],yT⟩:=aN (ar OQ (ar YM aO)) 0x4bd4d424fd40bed2a076cf69658e6c3a9308c83eeb40b7f36760e07f7730cdd4d51aa578536c0d func107
def Zi:aI E ⟨258,[.v lT,.v aG],[.bool],BY⟩:=aN aO 0x23828060d func258
def Zx:aI E ⟨280,[.v c6],[aG],LY⟩:=aN aO 0x209746502b745dc039f07d3 func280
def OR:aI E ⟨210,[.v c6],[aG],Cp⟩:=aN (ar Zx aO) 0xd func210
def Z2:aI E ⟨336,[.m g7,.v aG,.v aG],[],CG⟩:=aN (ar IZ aO) 0x38a4b03519c13a64e224dcdca5ab1d58671f6a6e5efc15ef57660e8f36506b24e15fd6d5d47412c43611215352028144b5ef00d873e014130d9eb4879003018400466030b0a1d func336
def ZZ:aI E ⟨332,[.m g7,.v aG,.v aG,.v aG],[],CJ⟩:=aN (ar Z2 aO) 0xa037a2f317458008e9a7451b130b0185b func332
def ZO:aI E ⟨316,[.m g7],[],zc⟩:=aN (ar ZZ (ar OR aO)) 0x0 func316
def RG:jF:=⟨259,[.v fC],[.bool],BX⟩
def Zj:aI E RG:=KH.adp bn (sort:=λd=>(zc (d,())).map λa=>a.1) (λe f b=>by obtain⟨a,c,rfl⟩:=fB.1 b;exact ZO.2 (e,()) a c)
def Zh:aI E ⟨257,[.v aG,.v Bj],[.bool],Gj⟩:=aN (ar Zi aO) 0x60d func257
def ZG:aI E ⟨294,[.v fC,.c 257 [Bj]],[aG],Gw⟩:=aN (ar Zh aO) 0x3195177853060d func294
def Zg:aI E ⟨256,[.v fC,.c 257 [Bj]],[.bool],CB⟩:=aN (ar ZG aO) 0x60d func256
def YJ:aI E ⟨192,[.v lT,.v fC],[aG],BT⟩:=aN (ar Zj (ar Ox (ar Zg aO))) 0x23828060d func192
def YK:aI E ⟨193,[.v lT,.v fC],[oV],BW⟩:=aN (ar OQ (ar OP (ar OO (ar ON aO)))) 0x18715cf7c5789cb2c9b69bf02e37c46b3d0ab0d91a67ec23bf03771115205fd4aab44e10616d60f396e96c6d5d46e452392123a37717b64961143c29b060d func193
def X6:aI E ⟨105,[.v lT,.v fC],[oV,aG],yW⟩:=aN (ar YK (ar YJ aO)) 0x1bc2423828060d func105
def l6:aI E ⟨226,[.v gw],[gw],iD⟩:=aN aO 0x1a28f318a51a6c0d func226
def s8:aI E ⟨239,[.v .bool,.v gw],[da],lY⟩:=aN (ar l6 aO) 0x21200d func239
def Ej:aI E ⟨168,[.v aG],[da],um⟩:=aN (ar s8 aO) 0xdf530f0123de5733a6c0d func168
def YL:aI E ⟨195,[.v c6],[.bool],BR⟩:=aN aO 0xd func195
def Em:aI E ⟨240,[.v gw],[mT],uu⟩:=aN aO 0x10a00d func240
def IY:aI E ⟨196,[.v da],[da],sl⟩:=aN (ar Em (ar s8 aO)) 0x13eff81bf3c519fa4e0f047e9e9ffe2c0dd4c0d func196
def IV:aI E ⟨177,[],[cZ],yQ⟩:=aN aO 0x608 func177
def Y2:aI E ⟨222,[.v da],[da],B2⟩:=aN (ar Em (ar s8 aO)) 0x2e8f139fdf62eff0bf10f98af03cb94add4c0d func222
def xE:aI E ⟨149,[.v da],[aG],pV⟩:=aN (ar l6 aO) 0x58600d func149
def OV:aI E ⟨223,[.v da],[aG],y0⟩:=aN (ar OY aO) 0x18db00319516d1e14c0d func223
def Zy:aI E ⟨282,[.v gw],[aG],y3⟩:=aN (ar I2 aO) 0xd func282
def El:aI E ⟨224,[.v da],[aG],sk⟩:=aN (ar Zy (ar l6 aO)) 0x58600d func224
def O8:aI E ⟨286,[.v gw,.v aG],[gw],wH⟩:=aN (ar l6 aO) 0x25561a988284004635c91aca8599e2f0a6db060d func286
def ZM:aI E ⟨313,[.v fW],[.bool],Gk⟩:=aN aO 0xd func313
def ZW:aI E ⟨328,[.v gw,.c 313 []],[aG],Gx⟩:=aN (ar ZM aO) 0x3195177853060d func328
def ZL:aI E ⟨312,[.v gw,.c 313 []],[.bool],za⟩:=aN (ar ZW aO) 0x60d func312
def O9:aI E ⟨287,[.v gw,.v aG],[gw,.bool],y2⟩:=aN (ar l6 (ar ZL aO)) 0xbbe80961156045d82d18e7622afa3a37fab0b3f09b34a95aa7f65628436c8eb47c82b9eb684db060d func287
def I4:aI E ⟨245,[.v gw,.v gw],[gw],wG⟩:=aN (ar l6 aO) 0xdb4c17e506b0084181cf87f15780fd690b822cf56a736a694e64aef79d79b0e0d1f4400542702a07d3 func245
def O0:aI E ⟨247,[.v da,.v aG],[da,aG],qX⟩:=aN (ar O9 (ar O8 (ar I4 (ar s8 (ar l6 aO))))) 0x2c0d40b7824f6784d8b1f0638b6aed0c267a5d26b10ad4f50c1e4140483ac0dd20c78ab926cc6453060d func247
def OW:aI E ⟨225,[.v da,.v aG],[da],yR⟩:=aN (ar O0 aO) 0x12a206e95ad94ccb18d26e4798ccc8a34c0d func225
def Ai:aI E ⟨148,[.v cZ],[cZ,.bool],pU⟩:=aN (ar OW (ar El (ar OV (ar Y2 (ar IV (ar xE aO)))))) 0x1326d3dddf3a6b7574272efdf39dec77aaf10f35f74536fe341c5335c93633cc66684b4db6c0d func148
def Ei:aI E ⟨167,[.v da,.v aG],[cZ],uh⟩:=aN (ar Ai aO) 0x196325628060d func167
def qd:aI E ⟨106,[.v c6],[cZ],j2⟩:=aN (ar IY (ar YL (ar IX (ar Ej (ar Ei aO))))) 0x4b1eed0378d36dc666172033de6f513426c0d func106
def Z7:aI E ⟨39,[.v mm,.v fC],[(.ptr .bh v7),aG],wZ⟩:=aN (ar qd (ar X6 (ar X5 (ar X4 (ar X3 (ar Ef aO)))))) 0x5018ebc57ea0905347e1dabe17afcc003ed06288a63946180f7ee1f5c9b4cbb46d42b47ca54170347b73464365fea0eba37415b76f300aa73978eec5622fcfde5343ed275965c844335fe446172956de91f65cb8a27fd6f0273e4889c47fcd3fc925964538d48400b05bd924b4e5415880f4eb014fae491d978b4fb45d4b0aba88dd274cdd4b44d0b55f578d602ddfa21edc28a626132d9ede1c31fd9acfec65d79dbfe4a5d606f1be309200dd565cb46a6db6db060d func39
def ZH:aI E ⟨299,[.v c6,.v c6],[c6,c6],Cq⟩:=aN aO 0x60d func299
def Zl:aI E ⟨260,[.v c6,.v c6],[c6,c6],Gq⟩:=aN (ar ZH aO) 0x60d func260
def YN:aI E ⟨199,[.v fC,.v aG],[g7],CE⟩:=aN (ar Zl aO) 0x4f1df1c7b43d69ee5cbeb6acff078e0b6c79603b14c9a2997259069be51e39053060d func199
def X7:aI E ⟨108,[.v mU,.v aG],[g7,.bool],Da⟩:=aN (ar YN aO) 0x8c6b0a4915c00bd6692471aa627386d879118613a822be88c5866006e60ebb93013c46523febc29b060d func108
def X9:aI E ⟨110,[.v oU,.v aG],[.bool],Dc⟩:=aN aO 0x29886fc0076f4bdfe95654edcc34053e6b0a1e14db060d func110
def Yb:aI E ⟨112,[.v mU,.v fC,.v oU],[.bool],Db⟩:=aN (ar IL aO) 0x313b180181daa81aac5eb8bc29b6c2860d func112
def X8:aI E ⟨109,[.v oU,.v (.ptr .eE aG)],[.bool],GX⟩:=aN (ar X9 aO) 0x57828060d func109
def Yc:aI E ⟨114,[.v mU,.c 109 [(.ptr .eE aG)]],[aG],Gu⟩:=aN (ar X8 aO) 0x3195177853060d func114
def Z9:aI E ⟨41,[.v mU,.c 109 [(.ptr .eE aG)]],[.bool],Cy⟩:=aN (ar Yc aO) 0x60d func41
def Ya:aI E ⟨111,[.v oU,.v (.ptr .bh mU),.v (.ptr .eE hf)],[.bool],GY⟩:=aN (ar Yb aO) 0x15e0e02860d func111
def Yd:aI E ⟨114,[.v mU,.c 111 [(.ptr .bh mU),(.ptr .eE hf)]],[aG],Gv⟩:=aN (ar Ya aO) 0x3195177853060d func114
def aaa:aI E ⟨41,[.v mU,.c 111 [(.ptr .bh mU),(.ptr .eE hf)]],[.bool],Cz⟩:=aN (ar Yd aO) 0x60d func41
def Z8:aI E ⟨40,[.v lT,.v mU],[aG],uA⟩:=aN (ar IL (ar X7 (ar Ox (ar aaa (ar Z9 aO))))) 0x18150ea83acfc35258f27581a39e74c5d1369b7838268caf65751e1fd1a083817c0984d9ac0bda67784ece531e9c3d2cdb68776d62592527f0e85fd0587d05d021347c83152d55954536db060d func40
def Yf:aI E ⟨115,[.v oU,.v (.a6 .eE kz)],[g7,aG],Cl⟩:=aN aO 0x6fc9e5f6e37f070ceaf6e7f98519f8018dcd9410b424c3745a1cc734aace3ce5b983aee4604f5994948b43c29b060d func115
def Yg:aI E ⟨116,[.v (.ptr .eE (.st (.pr aG (.pr lT (.pr (.a6 .eE (.fw .eE cZ)) .nil))))),.v aG,.v aG],[cZ],wY⟩:=aN aO 0x19a02860d func116
def YQ:aI E ⟨202,[.v fC,.v aG],[aG],zb⟩:=aN aO 0x3195177853060d func202
def IU:aI E ⟨172,[.v cZ,.v cZ],[cZ,cZ,.bool],wA⟩:=aN (ar Ai aO) 0x16dfd661c5ccb66bde98b8a9221192db268d4db060d func172
def Ek:aI E ⟨180,[.v da,.v aG],[da],o1⟩:=aN (ar O0 aO) 0x848060d func180
def OK:aI E ⟨173,[.v cZ,.v cZ],[da,da,aG],yP⟩:=aN (ar Ek aO) 0x9093705ab462aadc7bbb83df416ea3999ba9b060d func173
def ZK:aI E ⟨311,[.v fW],[.bool],BJ⟩:=aN aO 0xd func311
def Zz:aI E ⟨284,[.v fW,.v fW],[aG],BH⟩:=aN (ar ZK aO) 0x60d func284
def I3:aI E ⟨241,[.v gw,.v gw],[aG],wE⟩:=aN (ar Zz (ar IM aO)) 0x620a429b060d func241
def OZ:aI E ⟨246,[.v gw,.v gw],[gw],wF⟩:=aN (ar l6 aO) 0x913b594e402c0809a80b1171f56a736b342e69c77118d0dc7d3ef92c25e14db060d func246
def IW:aI E ⟨179,[.v da,.v da],[da],uk⟩:=aN (ar OZ (ar I4 (ar I3 (ar s8 (ar l6 aO))))) 0x398267c5e5cb421c0bf15ec412370d6777027b00ff919578eb969b060d func179
def OJ:aI E ⟨170,[.v cZ,.v cZ],[cZ],yM⟩:=aN (ar IW (ar IV (ar OK (ar IU (ar Ei aO))))) 0x21e434648060d func170
def Yh:aI E ⟨117,[.m r4,.v kz],[],Cc⟩:=aN (ar YQ (ar OJ aO)) 0x4d7eb7f7388a0e93d703f0f116e0d1ca88071de5398f98e789e7b619828025835f549337c3d2b21f3062a44aacb349de825ddc5800acc277de6dac0e127e483ada7b8e7ebc41feabe5600fa57752de1e93180e54aff3e888d164af718ffc3bbc7e83d634c2a36dea5612b34904e3c02256e87fd5be3fa3d944d6a8e9003feae5ec8ef5cc154e4ca4246038d0fd2c6093b61e14c1d func117
def aad:aI E ⟨43,[.v (.ptr .eE (.st (.pr aG (.pr lT (.pr (.a6 .eE (.fw .eE cZ)) .nil))))),.v oU,.v (.a6 .eE kz)],[r4,aG],Ca⟩:=aN (ar Yh (ar Yg (ar Yf aO))) 0x79006c4a046b69142cf4fcfd2c095d0c411aff892803a8c831265f9cdf6f83a8c271127dd76b6ea4e1d5f411ebaf3515246d2f593130c451b113bbcd932e301e093c0987fc92005beca2b4328551ca1cba4c9f02122774d5d1e4b75954bb2b0648659be252c7745276b646b749c3ad22a4ae89b9cb78324ca13dc8377d85df53cd56c04492c64f64a4c4e7055a10bcc24f6321c66a40764cb4cd9b6847dd7f3c2950194a4a312761443e7a1f750295ac96edb79a0436c50afaa0438e8f9c9eb17551c278591d7cff4adb627b34bad079d86a39429046b7f389a52a0a3756dfd776285f33ef3ca4da4f46f88c874a6da31e860073087cc0eca1a3070c6b1d28fe13b2d59a1382001406f45e62e536c2860d func43
def Et:aI E ⟨83,[.v aG],[cZ],qW⟩:=aN (ar Ej (ar Ei aO)) 0x18a00d func83
def OI:aI E ⟨166,[.v cZ],[cZ],wy⟩:=aN (ar Ai aO) 0x18a00d func166
def xG:aI E ⟨61,[.v cZ],[aG],mX⟩:=aN (ar xE (ar Ai aO)) 0xd func61
def IT:aI E ⟨169,[.v da],[da],uj⟩:=aN (ar Em (ar s8 aO)) 0x14d10558600d func169
def ZJ:aI E ⟨302,[.v cZ],[qI],Gi⟩:=aN (ar IT aO) 0xacaa17150fde9cdd00cdd4c0d func302
def ZQ:aI E ⟨319,[.v qI],[aG],BM⟩:=aN (ar El aO) 0x28e0600d func319
def Z3:aI E ⟨344,[.v da,.v da],[da],B3⟩:=aN (ar IW aO) 0x425628060d func344
def OL:aI E ⟨174,[.v da,.v da],[aG],yZ⟩:=aN (ar I3 (ar l6 (ar xE aO))) 0xb1d628060d func174
def Z0:aI E ⟨333,[.v qI,.v aG],[da,aG,.bool],yO⟩:=aN (ar Z3 (ar OW (ar El (ar Ek (ar OL (ar Ej (ar xE aO))))))) 0x1c18518eef2bd6b077e5b23133f662829d83973b2b940fafa2c53c00f0fdbddf7b7bff50820b4cea6db060d func333
def ZS:aI E ⟨321,[.v qI,.v aG,.v aG],[da],BN⟩:=aN (ar Z0 (ar OV (ar IY (ar Ek (ar IW (ar Ej (ar xE aO))))))) 0x516e67d9c03d4be4b593b527a8a141cf3ec73874347881059210e08bec0ff815cc2e4256ca7579f26ae4cb26c2860d func321
def ZR:aI E ⟨320,[.v da],[aG,.bool],B0⟩:=aN (ar l6 aO) 0xa7c641ad7f1d2d071bccbdff54d885b951b13e8897972bc29b6c0d func320
def Pc:aI E ⟨322,[.v c6,.v .bool],[c6],ui⟩:=aN aO 0x60d func322
def ZT:aI E ⟨323,[.v .bool,.v aG],[c6],BS⟩:=aN (ar Pc aO) 0x8a2dc93060d func323
def Pb:aI E ⟨301,[.v qI,.v aG],[c6],yS⟩:=aN (ar ZT (ar Pc (ar ZS (ar ZR (ar ZQ (ar IT aO)))))) 0x1ea87807b3e04826db060d func301
def Zm:aI E ⟨262,[.v cZ,.v aG],[c6],BP⟩:=aN (ar xG (ar ZJ (ar Pb (ar OI aO)))) 0x60d func262
def I1:aI E ⟨206,[.v kz,.v aG,.v aG],[c6],sn⟩:=aN (ar Zm aO) 0x2860d func206
def ZP:aI E ⟨318,[.v c6],[aG],BO⟩:=aN (ar IX aO) 0x107f69059a6c0d func318
def ZI:aI E ⟨300,[.v lU],[.bool],BQ⟩:=aN (ar ZP aO) 0x316513c5e14c0d func300
def O3:aI E ⟨261,[.v c6],[c6],wB⟩:=aN (ar ZI aO) 0xd func261
def Pe:aI E ⟨86,[.v cZ,.v cZ],[aG,.bool],yN⟩:=aN (ar OL (ar OK (ar IU aO))) 0x444878060d func86
def YR:aI E ⟨203,[.v kz,.v aG],[cZ,aG,aG],y8⟩:=aN (ar Pe (ar Et (ar O3 (ar I1 (ar u6 (ar qd aO)))))) 0x588fc0c7e46989ff34ea4ff874136a293cca76335cc91c70abeda2e0d06c6e658ea48ba045260ed1b7d1c9ab649c3c29b060d func203
def YS:aI E ⟨204,[.v kz,.v aG],[cZ],y5⟩:=aN (ar O3 (ar I1 (ar qd aO))) 0x648060d func204
def Y8:aI E ⟨244,[.v gw,.v gw],[gw],B6⟩:=aN (ar l6 aO) 0x2fc9a11e020c623fde3ecd3f4be637e9993a2a0976f654c3424c58967aaca694e303fe3afed168f9093060d func244
def Yz:aI E ⟨178,[.v da,.v da],[da],B1⟩:=aN (ar Y8 (ar s8 (ar l6 aO))) 0x38bc3f495bb3d89730d0333753060d func178
def xH:aI E ⟨90,[.v cZ,.v cZ],[cZ],ny⟩:=aN (ar Yz (ar IV (ar IU (ar Ei aO)))) 0x1319ea9cf458ab1896b6ab26818f4fdfafcf5929aad2401baacb968d4db060d func90
def YT:aI E ⟨205,[.v cZ,.v cZ],[.bool],wJ⟩:=aN (ar xH (ar Pe (ar Et aO))) 0xe1dc28060d func205
def Yi:aI E ⟨118,[.v kz],[g7,aG],Cd⟩:=aN (ar xH (ar xG (ar YT (ar YS (ar YR aO))))) 0x95245812a0a3df38ebf57b4ecb1a4babfe744d44e861e3a90899d7d2f6ef9cda1db9a3f8a9e0152b992392b3730cb94b1e14c0d func118
def O4:aI E ⟨263,[.v kz],[g7],y9⟩:=aN aO 0x5e8002f94f0ae607ee1180abe5323af0a6c0d func263
def Z5:aI E ⟨350,[.v gw,.v fW],[gw,fW],B5⟩:=aN (ar l6 aO) 0x10230b9c413d9c26b918d3b27d6f29214db060d func350
def ZV:aI E ⟨326,[.v fW],[aG],ur⟩:=aN (ar I2 aO) 0xd func326
def RH:jF:=⟨351,[.w fW,.v gw],[fW],y1⟩
def Z6:aI E RH:=
 .q aO (.k [1] (.n (.n (.t .none (.d [.b [0],.a,.b [0],.b [0],.a,.a,.b [0],.a,.a,.b [0],.b [0],.a,.a,.a]) (.n (.t .none (.o (.k [5] (.p ⟨[(0,.w 0),(7,.v c6),(8,.v c6)],[(0,mT)]⟩ (.x 0 ⟨[(0,.w 0),(7,.v c6)],[(0,mT)]⟩) (.t (.vy [7,8] ⟨[(0,.w 0)],[(0,mT)]⟩) (.t .none (.d [.a,.a,.a,.a,.a,.a,.a,.a,.a,.a,.a,.a,.a,.b [0],.a,.a,.b [0],.b [0],.a,.a,.a,.a]) .l) .l)))) (.n (.t .none (.n (.o (.k [5,7,84,85] (.p ⟨[(0,.w 0),(9,.v c6),(10,.v c6),Kb 86],[(0,mT)]⟩ (.x 2 ⟨[(0,.w 0),(9,.v c6),(10,.v c6)],[(0,mT)]⟩) .l)))) (.n (.n (.n (.n (.t .none (.n (.o (.k [5,7,140,141] (.p ⟨[(0,.w 0),(9,.v c6),Kb 142],[(0,mT)]⟩ (.x 4 ⟨[(0,.w 0),(9,.v c6)],[(0,mT)]⟩) .l)))) .l))))))))))))) func351 call351
def Z4:aI E ⟨345,[.v gw,.v gw],[gw,gw],B4⟩:=aN (ar Z6 (ar Z5 (ar ZV (ar O9 (ar O8 (ar I3 (ar Em (ar l6 aO)))))))) 0x18aeeeedfec8ea0182e7212c918b4d25c414f669368a4637e66e53e6c922f3a78536db6db060d func345
def Z1:aI E ⟨334,[.v da,.v da],[da,da,aG],BZ⟩:=aN (ar Z4 (ar OZ (ar I4 (ar s8 (ar l6 aO))))) 0xf788e0cb21542043b401bc9747f2c0e722a5ad9592864d80a9ce054cf7b632a826db060d func334
def ZU:aI E ⟨324,[.v cZ,.v cZ,.v aG],[qI],BL⟩:=aN (ar Z1 (ar El (ar Ek (ar IT (ar xE aO))))) 0x2d553b25a474298294e1aa7de92eec6701da11a33e060d970ef81ccfc0ebba803338937a0666ea6c2860d func324
def Eo:aI E ⟨303,[.v cZ,.v cZ,.v aG],[c6],sj⟩:=aN (ar xG (ar ZU (ar Pb (ar OI aO)))) 0x57bd99e6dacfaac797f32a792d67b8db2a141d202d2ede8d4c2860d func303
def O6:aI E ⟨268,[.v (.a6 .eE cZ),.v cZ],[r6],o2⟩:=aN (ar xH aO) 0x3a4a66f7e0931dc46c42f97c8e735bc29b060d func268
def Yy:aI E ⟨171,[.v cZ],[cZ],BK⟩:=aN (ar IY (ar Ai aO)) 0x93c00cf192331ba6c0d func171
def I7:aI E ⟨85,[.v cZ,.v cZ],[cZ],wz⟩:=aN (ar Yy (ar OJ aO)) 0x47b452bee004bcf2b753060d func85
def O5:aI E ⟨267,[.m r4,.v fC,.v (.a6 .eE cZ),.v (.a6 .eE cZ)],[],pW⟩:=aN (ar xH (ar I7 aO)) 0x1df4ec24225ed6d23853449b6ba86f6015a49eb3cc6a16100ebbb3039beafd16394c3c0e945c8fc0bf9d0fb12faad8742398030ddda31ed7b4d0f46d0c0613c13980c36cd2c38a1d func267
def Zo:aI E ⟨265,[.v aG],[cZ],Ci⟩:=aN (ar Et aO) 0x18a00d func265
def Zp:aI E ⟨266,[.v kz,.v fC,.c 265 [],.v cZ],[v5,r6,aG],Gl⟩:=aN (ar Eo (ar Zo (ar u6 (ar qd aO)))) 0x110edc05890329cfb891e901349a2b11286e4e1da761e9463519443f16cd2e312022052e81deec4c21f6d3b9d8d628dc0976d2a9bbb4e1eb89ab0af6c30ead0ac6a803630b4c2b01821dc12a599684c3c2b15bad91576eace834e39cc72dd0b848be79179ab611a49992c2ea285d33dd1205e24d51dde14db0e2860d aj2
def Zn:aI E ⟨264,[.v aG,.v (.ptr .bh kz),.v (.ptr .bh aG)],[cZ],Ch⟩:=aN aO 0x32efc6f7e0f204cdd4c2860d func264
def Zq:aI E ⟨266,[.v kz,.v fC,.c 264 [(.ptr .bh kz),(.ptr .bh aG)],.v cZ],[v5,r6,aG],Gm⟩:=aN (ar Eo (ar u6 (ar qd (ar Zn aO)))) 0x110edc05890329cfb891e901349a2b11286e4e1da761e9463519443f16cd2e312022052e81deec4c21f6d3b9d8d628dc0976d2a9bbb4e1eb89ab0af6c30ead0ac6a803630b4c2b01821dc12a599684c3c2b15bad91576eace834e39cc72dd0b848be79179ab611a49992c2ea285d33dd1205e24d51dde14db0e2860d aj2
def YU:aI E ⟨207,[.m r4,.v aG,.v c6],[(.osl ml),aG],Cg⟩:=aN (ar Et (ar xG (ar O6 (ar O5 (ar O4 (ar qd (ar Zq (ar Zp aO)))))))) 0x8a17e9f13b5ca7b18d7c88dcc46098fd8c3d0a5ca71f7e35ebc60e0916a764cff978abe49c9a29612ec91cb5b47a3f7847c6a35999ce961406ada1da9b0a1d func207
def I6:aI E ⟨62,[.v (.a6 .eE cZ)],[cZ],wI⟩:=aN (ar xH (ar I7 aO)) 0x5ec6547812c55d1cccdd4c0d func62
def O7:aI E ⟨269,[.v aG,.v aG,.v aG,.v cZ,.v cZ,.v (.ptr .bh kz)],[cZ],y7⟩:=aN (ar xH (ar I7 aO)) 0x1758e808151921459c5a34a403333337531648e2860d func269
def Zu:aI E ⟨270,[.v aG,.v (.ptr .bh (.fn 269 (.pr (.ptr .bh kz) .nil))),.v (.ptr .bh aG),.v (.ptr .bh aG),.v (.ptr .eE nj)],[cZ],Ce⟩:=aN (ar O7 aO) 0x137b461f07c441ccdd4c48e2860d func270
def Zr:aI E ⟨266,[.v kz,.v fC,.c 270 [(.ptr .bh (.fn 269 (.pr (.ptr .bh kz) .nil))),(.ptr .bh aG),(.ptr .bh aG),(.ptr .eE nj)],.v cZ],[v5,r6,aG],Gn⟩:=aN (ar Eo (ar u6 (ar qd (ar Zu aO)))) 0x110edc05890329cfb891e901349a2b11286e4e1da761e9463519443f16cd2e312022052e81deec4c21f6d3b9d8d628dc0976d2a9bbb4e1eb89ab0af6c30ead0ac6a803630b4c2b01821dc12a599684c3c2b15bad91576eace834e39cc72dd0b848be79179ab611a49992c2ea285d33dd1205e24d51dde14db0e2860d aj2
def Zv:aI E ⟨271,[.v aG,.v (.ptr .bh (.fn 269 (.pr (.ptr .bh kz) .nil))),.v (.ptr .bh aG),.v (.ptr .bh aG),.v (.ptr .eE nj)],[cZ],Cf⟩:=aN (ar O7 aO) 0x137b461f07c441ccdd4c48e2860d func271
def Zs:aI E ⟨266,[.v kz,.v fC,.c 271 [(.ptr .bh (.fn 269 (.pr (.ptr .bh kz) .nil))),(.ptr .bh aG),(.ptr .bh aG),(.ptr .eE nj)],.v cZ],[v5,r6,aG],Gp⟩:=aN (ar Eo (ar u6 (ar qd (ar Zv aO)))) 0x110edc05890329cfb891e901349a2b11286e4e1da761e9463519443f16cd2e312022052e81deec4c21f6d3b9d8d628dc0976d2a9bbb4e1eb89ab0af6c30ead0ac6a803630b4c2b01821dc12a599684c3c2b15bad91576eace834e39cc72dd0b848be79179ab611a49992c2ea285d33dd1205e24d51dde14db0e2860d aj2
def YV:aI E ⟨208,[.m r4,.v aG,.v aG,.v lU],[(.osl ml),aG],y6⟩:=aN (ar I6 (ar O6 (ar O5 (ar O4 (ar qd (ar Zs (ar Zr aO))))))) 0x220f838017cabcc38d878864832136ef3705b21222f92856b512d000ac6106dd11d7fd766c0ee7cdd1327c41821491f59bcb4d64e439477f40f33e7f9836363caab8dc72c67b37f903bbd26805f5ced22f4be8a5de809fd2db119dd3276eb914db624487400f6a296a30d4d13e4f43eff5f9c67dbfbaa2f4af39744c7fc7fe6ed2de915ec27b66e93b65d573b6a9d0794e3676424f1cee3b8566c3e45666ea6c38a1d func208
def Yj:aI E ⟨119,[.m (.optr Bk),.m r4,.v fC],[aG],Cm⟩:=aN (ar YV (ar YU (ar I1 aO))) 0x171e5c0d980f51515dfe713bf7bf1998ef583f32159c176172d22ac1c32788fffdecc426808b436db260497d926041bf98c4a80fa01fec211753fdf0aabfa8a69f79cb72448212a619dde991fa5577ac0fdfaa074cc49092bd5c7cfc90a5bff7b9eb418aa8505b5f1fe26481e08e7fb4e56b0bc20f7ce47190fa6dffd26f600515e958bac3d88dac24daebef5c721c25c32a62774a4d804f42e2a2f5291949fdc68d36d942cc33cac69f7622513414d7a452c323f1974748640655bdca2b4516da4356b826ff2b1476bb37c940347b4b3f26b68e74894c355e06c9045feda2aa6a9abf2c8ac32e03fc4c07e34ea4e3a75e8897f0708e30132137ca2d87fb4c742f65f1da0d561896e673f1676d63850054424626a5cd247681d66ac6c1252f0a6c2d func119
def aae:aI E ⟨44,[.m (.optr Bk),.m r4],[aG],Co⟩:=aN (ar Yj (ar Yi aO)) 0x163fc65b80ff711c9112fdf745fa6cc48f05b0ff526cab8d6482a8d9a3c7cca2139475a43b6b1c24a2126b491da061b048d3 func44
def Yl:aI E ⟨121,[.v aG,.v aG,.v (.ptr .eE fC),.v (.ptr .eE ml)],[aG],uq⟩:=aN (ar IM aO) 0xe2860d func121
def Zw:aI E ⟨272,[.m g7,.v aG,.v aG,.c 121 [(.ptr .eE fC),(.ptr .eE ml)]],[],Gz⟩:=aN (ar Yl aO) 0x1fdca31dde7cb0d8bf34bc3c1d304081ba01abde156dcc56a12968308e8d4d148233fc240beae1c265119b1fcee00a0512ebfc0361cf80528c369ed21e400c0610012180c2c38a1d func272
def YW:aI E ⟨209,[.m g7,.v aG,.v aG,.v aG,.c 121 [(.ptr .eE fC),(.ptr .eE ml)]],[],CI⟩:=aN (ar Zw aO) 0x280de8bcc5d160023ae9d546c4c2c0616c4d func209
def Yk:aI E ⟨120,[.m g7,.c 121 [(.ptr .eE fC),(.ptr .eE ml)]],[],CF⟩:=aN (ar OR (ar YW aO)) 0x1d func120
def aaf:aI E ⟨45,[.v (.ptr .bh (.st (.pr (.ptr .bh v7) (.pr hf (.pr hf (.pr (.a6 .bh c6) (.pr (.a6 .bh ml) (.pr aG .nil)))))))),.v fC],[FC],Cn⟩:=aN (ar Yk aO) 0x3762376f90e937bf32923b94339d468b45194bf042a6aeca05cb89bb7c97cd05c5c313825edf5c520f44146c996c0adc28cf289677f0dbf2c40a90f48ca0b26f2dda8d320e78181d004631001629b6d22ed9555bd5285a128b6fdd9008a6d7a8aeae178af1497a0a4f3de68d38a5e89276376da3803c6dd1f04123c57ca9f2bbac6ecf2bc22b839735be1e947febc823c6611e57409605c1d08d38e7250e960e829aaa5a950ffbd9448d5bb50806be1d68ab82a4ee0203ccbc94040ba624502865cb2608b5f5a5de5a9da44f79cc5b819e982928b8ded8f98ab1bee883a5a7ca1b0faea441d079e739b17af895fc886812c2b5815132107f3871b458be6862e42bf42a3ebf326fa3f72a76d1848a4860d3fd36a7b8d08063c94eaaf00489cb9e461ae33c99104ae30fa09759129a12140dd5ff3e986df9613916cc559ba9b060d func45
def aac:aI E ⟨42,[.v oU],[.bool],B8⟩:=aN aO 0x15e0600d func42
def Ye:aI E ⟨114,[.v mU,.c 42 []],[aG],CC⟩:=aN (ar aac aO) 0x3195177853060d func114
def aab:aI E ⟨41,[.v mU,.c 42 []],[.bool],CA⟩:=aN (ar Ye aO) 0x60d func41
def Oy:aI E ⟨11,[.v mm,.v fC,.v mU],[Bl,aG],uo⟩:=aN (ar aaf (ar aae (ar aad (ar Z8 (ar Z7 (ar aab aO)))))) 0x677b18c73febb7e95d3b3a249372fb147b80513e233de7947242663d62a9d1511677f54dd058830338ddf58631ab0e77fa81abeee61e96ff9fef94e969ce4734237e9a022aad77438a3798c955b70b7ad012710abc894d2d57d83ef20a4a736b399e524c1df77790bfd5214e2da6eacf9db5712774b5cd062716dba0c4f3b2303f0760772262bf96e2542fa40aeda6599088d058345ee658f9e21dda457264054b1da8a0b49c7d5448172907759c57a78536db6c2860d func11
def Yx:aI E ⟨164,[.v cZ,.v cZ],[da,da,aG],sv⟩:=aN (ar Ep (ar IR aO)) 0x5699f80d1eec097150bd924eb57b7e0810b977965f213bd417b6307c71a00e450883615928d97be4f301841b0d8c0fb737e2abf97673addc1efa06161f4793c1b95b1df7b488a0d4fff140f2e52b753060d func164
def aap:aI E ⟨80,[.v cZ,.v cZ],[cZ],ss⟩:=aN (ar Ak (ar Es (ar Er (ar Yx (ar IQ aO))))) 0x14352382663baf7b2d8d482bfbe52b0f77e648441a437650dbc569171ac7ba4ba5a353060d func80
def Zk:aI E ⟨26,[.v cZ],[aG],wT⟩:=aN (ar Er (ar Ep aO)) 0xd func26
def aaq:aI E ⟨81,[.v cZ],[cZ],CT⟩:=aN (ar Ak (ar Er (ar OH aO))) 0x2771e6eff1011974c90a38b2ee992d3a3536c0d func81
def ZC:aI E ⟨29,[.v cZ,.v cZ],[cZ],su⟩:=aN (ar aaq (ar aap aO)) 0x47b452bee004bcf2b753060d func29
def O1:aI E ⟨25,[.v fC,.v fC],[.bool],zg⟩:=aN aO 0x620a429b060d func25
def aak:aI E ⟨57,[],[vZ],LZ⟩:=aN aO 0x1922242481f808 func57
def Yt:aI E ⟨145,[.v fC],[.bool],Cj⟩:=aN aO 0x6ba8406adebe0e457cfca803730dfab114c8ffaf0a6c0d func145
def aar:aI E ⟨91,[.v v8],[g7,.bool],Ck⟩:=aN aO 0xc302d214835e59c33ecf5c889fdad5548253bbaa9e0008a59765fa168b78f7c6be4461eb658c806f73051e642149806e533302c922fe578536c0d func91
def Yu:aI E ⟨146,[.v v8,.v fC],[.bool],Cb⟩:=aN aO 0xc64b41340b9ba1fa37e849f6b4d70853c93229cdd3c1682924e1bf1d173eab756259241effc1a8258147968f010a29b060d func146
def Pd:aI E ⟨60,[.v v8],[KN],y4⟩:=aN (ar qd aO) 0xfa856eb86fb21de77a857001e286685c0e87254506c5130ed865cb76cff709115622d2991ff2578536c0d func60
def aam:aI E ⟨59,[.v v8],[aG],B7⟩:=aN (ar aar (ar I6 (ar xG (ar Pd (ar u6 (ar Yu (ar Yt aO))))))) 0x628d0a0687afe1cf0c1d85dabb9570da4ab526cca7e92e48a0c96ff0de32fb7937b054bc8304f41a6c650aeee14c948776881bbe89f0904e1825ad7931391e9259175c244eb4043c805a6c0d func59
def YI:aI E ⟨19,[.v v8],[Bf,aG],B9⟩:=aN (ar I6 (ar xG (ar Pd (ar aam aO)))) 0x2aba805712e59fcc08b81856eaab863ff361f2eea02073e38eea9a6a2ebad14b6e33244aae45c3fa536f6693878536c0d func19
def Yv:aI E ⟨15,[],[.bool],CO⟩:=aN (ar aak (ar O1 (ar YI (ar Oy aO)))) 0x84c21c1c17818 func15
def Y7:aI E ⟨24,[.v lU,.v aG,.v aG,.v aG],[(.osl c6)],CM⟩:=aN (ar aal (ar I5 aO)) 0x73f5891189a9cbe772429b0e2860d func24
def vI:jF:=⟨6,[.v lU,.v aG,.v aG],[.bool],GC⟩
def aan:aI E vI:=aN (ar ZC (ar En (ar Zt (ar Zk (ar O1 (ar Y7 (ar YA (ar Eh (ar Yv (ar Ym (ar Oy aO))))))))))) 0x11ef6e1e0901e991fb23e4c7f8fa992b62c121fb42171f15fe6df69b1cc211a409fc671ec9074756f7d309bf2d26dd3d4257f180b7226299dc391cf94cdab0dfa7430568a6f3371f81bf34f7b27c8c07be1c31d037c19afc330242ec88121fc58bff52c8ac04b04f9c9110a5c6f040c9b7e35dc3311293dda2e5e341b054dc2185da27896071aeda042a8cd0dff40c68cb1dd4aa791250db9208073108309bfa56d468dcf42e470b2957901c84789b490b969ebb666005103dfdbb6dfabf5b838eaea797c5aef200233ed64d6415e14db0a0d func6
end
end Go.jm
end
