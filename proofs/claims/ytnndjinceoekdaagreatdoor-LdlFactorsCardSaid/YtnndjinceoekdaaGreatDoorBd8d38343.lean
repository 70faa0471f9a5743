/-
  Parts of the proof: Fw25, Fw36, Fw46, Fw47, Pl1, Fs, Dn20, Dn21, TwS, Dn20b, Dn22, Dn24a, Dn24, Dn25, Dn25b, Tw25: the framework (Fw), pure forms (Dn), plain laws (Pl, Th), calls of functions (Ok).
-/
import Derived.ProofKit
import Derived.Handed
import Derived.KernelRfl
import Derived.Lib.SlicesCompact
import Derived.RangeFuncBox
import Derived.RangeFuncLeaves
import Derived.Shelf.Abstract
import Derived.WalkKit
import Derived.OwnWalkIn
import Derived.TacticsInMore
import Derived.LoopNIn
import Derived.LoopIn
import Derived.Maps.AppendAt
import Derived.Shelf.Slices.CompactI
import Derived.Lib.OwnBridge
import Derived.Test.YtnndjinceoekdaaGreatDoorProg
import Derived.Test.YtnndjinceoekdaaGreatDoorBa37ae58f

set_option linter.all false
set_option maxHeartbeats 1000000
open _root_ renaming Nat->X,Int->Z,List->bm,rfl->bn,Option->bv,cond_true->bG,congrArg->b4,Array->bU,Bool->bA,if_true->cj,False->b6,Unit->bt,cond->bw,and_true->b9
open Go renaming World->bC,ResultVar->aip,TypeId->bF,Exit->b5,Oper->bR,Program->b0,Field->aiE,MemPlace->ajR,Fence->ajf,CallsIn->ai7,callsIn_of_wp->ajW,undef->bW
open Option renaming none->bo,some->Y,bind_eq_some_iff->ajv,bind->bB
open Nat renaming beq->bH,blt->ca,ble->b2,reduceAdd->ajx,reduceSub->ajy,mul_one->ajO
open List renaming length->aiq,range->bI,getElem?_eq_none->ajU,getElem?_eq_getElem->bS,replicate->bJ
open Option.some renaming inj->ai1
open Bool renaming true->bp,false->bq
open ByteArray renaming empty->akE
open Go.Program renaming cellsOf->amC
open Go.Addr renaming add->akW
open Go.World renaming cell?->ajq,frozen?->akI
open Go.DataW renaming trod->alS,TrodAll->ajT
open Go.jg.ah renaming size->aiG
open Go.Value renaming okWide->ajS,bool->amF,int->aiu,oneCell'->aiC
open Go.WideShapes renaming okWide_int->anA,okWide_bool->anB,okWide_string->anC,okWide_slice->anD
open Go.ChangeShapes renaming trodAll_cons->alT,trodAll_mk1->anF,trodAll_append->anG
open Go.jg.c8 renaming refl->cq
open Go.WideElems renaming Trod_stays->anE
open Array renaming toArray_toList->amD
open Go.MemPlace renaming cell->amE
open Decidable renaming decide->br
open Go.IntKind renaming i64->bK,wrap->ajV,u64->bE,u32->cc,u8->alU
open Go.Lib renaming compact->ai6
open Go.Proofs.Tryz renaming prog->cp,underlying23->amG,func317->alV,ntmps317->amH
open Go.RowKit.Below renaming refl->aki
open Go.Boxed renaming new->amI
open Go.Sort renaming ahead->amJ
noncomputable section
namespace Go.jg
variable{a:X}{b:Value}{c:bC}{d:Z}{e:bm aip}{f:eD->X->Prop}{g:bm hl}{h:bm ah}{i:aif}{j:X->Prop}
section
def ns:X->(f:bm hl)->hp f->bm (X×ak)
 |_,[],_=>[]
 |k,.v g::b,a=>(k,.val g a.1)::ns (k+1) b a.2
 |k,.m _::b,a=>(k,.ref k [])::ns (k+1) b a.2
 |k,.o _::b,a=>(k,.ref k [])::ns (k+1) b a.2
 |k,.c e h::b,a=>(k,.eB e ((iT h a.1).map λd=>.val d.1 d.2))::ns (k+1) b a.2
 |k,.n::b,a=>(k,.dh (.slice bo 0 0))::ns (k+1) b a.2
 |k,.w _::b,a=>(k,.view k [] a.1.2.1 a.1.2.2)::ns (k+1) b a.2
 |k,.s _ _::b,a=>ns (k+1) b a.2
def nt:X->(e:bm hl)->hp e->bm (X×aG)
 |_,[],_=>[]
 |k,.v _::b,a=>nt (k+1) b a.2
 |k,.m d::b,a=>(k,⟨d,a.1⟩)::nt (k+1) b a.2
 |k,.o d::b,a=>(k,⟨d,a.1⟩)::nt (k+1) b a.2
 |k,.c _ _::b,a=>nt (k+1) b a.2
 |k,.n::b,a=>nt (k+1) b a.2
 |k,.w f::b,a=>(k,⟨.osl f,a.1.1⟩)::nt (k+1) b a.2
 |k,.s _ _::b,a=>nt (k+1) b a.2
def jR:X->bm hl->aie
 |_,[]=>[]
 |k,.m _::a=>k::jR (k+1) a
 |k,.v _::a=>jR (k+1) a
 |k,.o _::a=>jR (k+1) a
 |k,.c _ _::a=>jR (k+1) a
 |k,.n::a=>jR (k+1) a
 |k,.w _::a=>k::jR (k+1) a
 |k,.s _ _::a=>jR (k+1) a
def Gm {r:Type}:∀{k:X} {ps:bm hl} {a:hp ps} {b:iL ps r},jC k (gF ps a b)=ns k ps a/\j5 k (gF ps a b)=nt k ps a/\hQ k (gF ps a b)=jR k ps/\(gF ps a b).length=ps.length
 |k,[],a,b=>⟨bn,bn,bn,bn⟩
 |k,i::h,a,b=>by
  have g:=λa b=>Gm (r:=r) (k:=k+1) (ps:=h) (a:=a) (b:=b);cases i
  case m=>
   obtain⟨c,d,e,f⟩:=g a.2 b.2;simp only[gF,jC,j5,hQ,ns,nt,jR,i5,c,d,e,f,and_self]
  case w=>
   obtain⟨c,d,e,f⟩:=g a.2 b.2;simp only[gF,jC,j5,hQ,ns,nt,jR,i5,c,d,e,f,and_self]
  all_goals obtain⟨c,d,e,f⟩:=g a.2 b;simp only[gF,jC,j5,hQ,ns,nt,jR,i5,c,d,e,f,and_self]
def Ff (tt:bm (bF×ah)) (e:aO) (b:ah):aip->bv (b.den×aie)
 |.tmp k=>match gt e.g k with
  |.val _ l=>(hX b l).bind λa=>Y (a,[])
  |.dh f=>bif pT b f then(iJ b f.cells.toList).bind λa=>Y (a,[]) else bo
  |.ref id d=>match ar e.h id with
   |some c=>(hY c.1 c.2 d b).bind λa=>Y (a,[id])
   |none=>bo
  |_=>bo
 |.cell j i=>match ar tt i with
  |some m=>bif a7 m b then match gt e.g j with
   |.ref id d=>match ar e.h id with
    |some c=>match fm c.1 d with
     |some (.optr _)=>(hY c.1 c.2 (d++[.deref]) b).bind λa=>Y (a,[id])
     |_=>bo
    |none=>bo
   |_=>bo else bo
  |none=>bo
def Fe (tt:bm (bF×ah)) (c:aO):bm aip->(a:bm ah)->bv (lE a×aie)
 |[],[]=>Y ((),[])
 |r::f,e::a=>bif e.fW then(Ff tt c e r).bind λd=>(Fe tt c f a).map λb=>((d.1,b.1),d.2++b.2) else bo
 |_,_=>bo
theorem act {E:fA} {f:aO} {c:ah} {b:aip} {d:c.den×aie} (a:Ff E.tt f c b=Y d):r9 E.P f ⟨c,d.1⟩ b d.2:=by
 cases b with
 |tmp b=>
  simp only[Ff] at a;simp only[r9];split at a
  ·grind [j7,ajv]
  ·grind [ajv,pT.ok]
  ·grind [iK,ajv]
  grind
 |cell j h=>
  simp only[Ff] at a;simp only[r9];split at a
  case h_2=>cases a
  rename_i g i;cases e:a7 g c with
  |false=>grind
  |true=>
  rw[e] at a;refine⟨(E.ok h g i).lay e,?_⟩;simp only[bG] at a;grind [iK,ajv]
theorem Qb {E:fA} {f:aO}:∀{d:bm aip} {c:bm ah} {b:lE c×aie},Fe E.tt f d c=Y b->tX E.P f d (iT c b.1) b.2
 |[],[],b,a=>by cases a;rfl
 |[],_::_,b,a=>by cases a
 |_::_,[],b,a=>by cases a
 |r::d,k::c,b,a=>by
  simp only[Fe] at a;cases e:k.fW with
  |false=>grind
  |true=>
  rw[e] at a;simp only[bG] at a;obtain⟨j,h,a⟩:=eO.1 a;obtain⟨i,g,rfl⟩:=fC.1 a;exact⟨e,j.2,i.2,bn,act h,Qb g⟩
def o6 (
 st:aO) {t:Type} (d:bv t):X->(r:bm hl)->hp r->bv (iL r t)
 |_,[],_=>d
 |k,.v _::b,a=>o6 st d (k+1) b a.2
 |k,.o _::b,a=>o6 st d (k+1) b a.2
 |k,.c _ _::b,a=>o6 st d (k+1) b a.2
 |k,.n::b,a=>o6 st d (k+1) b a.2
 |k,.s _ _::b,a=>o6 st d (k+1) b a.2
 |k,.m l::b,a=>bif si (.ref k []) (gt st.g k)&&(l.fW&&rQ l) then match ar st.h k with
  |some j=>match hX l j.2 with
   |some e=>(o6 st d (k+1) b a.2).map λi=>(e,i)
   |none=>bo
  |none=>bo else bo
 |k,.w f::b,a=>match gt st.g k with
  |.view u [] q p=>bif bH k u&&f.fW then match ar st.h k with
   |some j=>match hX (.osl f) j.2 with
    |some e=>bif bH q a.1.2.1&&(bH p a.1.2.2&&(bH (aiq (α:=f.den) e) (aiq (α:=f.den) a.1.1)&&ca q p)) then(o6 st d (k+1) b a.2).map λi=>(e,i) else bo
    |none=>bo
   |none=>bo else bo
  |_=>bo
theorem ta {y:aO} {C:Type} {B:bv C}:∀{k:X} {ps:bm hl} {a:hp ps} {d:iL ps C},o6 y B k ps a=Y d->pA y k (gF ps a d)/\B=Y (ik ps d)
 |k,[],a,d,b=>⟨trivial,b⟩
 |k,.v _::e,a,d,b=>ta (ps:=e) b
 |k,.o _::e,a,d,b=>ta (ps:=e) b
 |k,.c _ _::e,a,d,b=>ta (ps:=e) b
 |k,.n::e,a,d,b=>ta (ps:=e) b
 |k,.s _ _::e,a,d,b=>ta (ps:=e) b
 |k,.m E::e,a,d,b=>by
  simp only[o6] at b;cases f:(si (.ref k []) (gt y.g k)&&(E.fW&&rQ E)) with
  |false=>grind
  |true=>
  rw[f] at b;simp only[bk] at f;simp only[bG] at b;split at b
  case h_2=>cases b
  rename_i J t;split at b
  case h_2=>cases b
  rename_i D u;obtain⟨I,r,rfl⟩:=fC.1 b;obtain⟨j,l⟩:=ta (a:=a.2) r;refine⟨⟨⟨(si.ok f.1).symm,?_,f.2.1,f.2.2⟩,j⟩,l⟩;rw[t];exact b4 Y (j7 u)
 |k,.w z::e,a,d,b=>by
  simp only[o6] at b;split at b
  case h_2=>cases b
  rename_i H x q G;cases f:(bH k H&&z.fW) with
  |false=>grind
  |true=>
  rw[f] at b;simp only[bk] at f;obtain rfl:=fu f.1;simp only[bG] at b;split at b
  case h_2=>cases b
  rename_i J t;split at b
  case h_2=>cases b
  rename_i D u;cases p:(bH x a.1.2.1&&(bH q a.1.2.2&&(bH (aiq (α:=z.den) D) (aiq (α:=z.den) a.1.1)&&ca x q))) with
  |false=>grind
  |true=>
  rw[p] at b;simp only[bk] at p;obtain⟨h,i,F,A⟩:=p;have h:=fu h;have i:=fu i;have A:x<q:=gS A;obtain⟨I,r,rfl⟩:=fC.1 b;obtain⟨j,l⟩:=ta (a:=a.2) r;refine⟨⟨⟨by rw[G,h,i],?_,⟨f.2,aa⟩,fu F⟩,j⟩,l⟩;rw[t];exact b4 Y (j7 u)
def DV (tt:bm (bF×ah)) (a:bm hl) (f:bm aip) (d:bm ah) (e:hp a) (c:aO):bv (iL a (lE d)):=
 match Fe tt c f d with
 |some b=>bif jr (jR 0 a++b.2) then o6 c (Y b.1) 0 a e else bo
 |none=>bo
theorem MQ {E:fA} {j:aO} {c:hp g} {d:iL g (lE h)} {f:b5} (m:f=.normal\/f=.ret) (b:DV E.tt g e h c j=Y d):KK E.P (gF g c d) e (iT h (ik g d)) f j:=by
 unfold DV at b;split at b
 case h_2=>cases b
 rename_i i o;cases l:jr (jR 0 g++i.2) with
 |false=>grind
 |true=>
 rw[l] at b;simp only[bG] at b;obtain⟨k,n⟩:=ta (a:=c) b;refine⟨m,i.2,?_,?_,k⟩
 ·grind [Qb,ai1]
 simp_all [Gm]
def MR (tt:bm (bF×ah)) (a:bm hl) (e:bm aip) (c:bm ah) (d:hp a):b5->aO->bv (iL a (lE c))
 |.normal,b=>DV tt a e c d b
 |.ret,b=>DV tt a e c d b
 |_,_=>bo
def Ad (c:gR) (e:l9) (f:Code) (a:bm hl) (g:bm aip) (d:bm ah) (b:hp a):bv (iL a (lE d)):=
 hL c e f ⟨ns 0 a b,nt 0 a b⟩ _ (MR c.tt a g d b)
section
variable {E:fA}
theorem aC.OI {i:X} {d:Func} {j:hp g->bv (iL g (lE h))} (n:bm (X×jw)) (r:bm (X×ah)) (o:aig) (w:l9) (aB:ah7) (F:∀v∈aB,yp E.P v) (D:E.P.funcs[i]?=Y d) (O:d.body.isSome=bp) (I:d.results=e.toArray) (R:b2 g.length d.ntmps=bp) (C:∀(s:ah6) (t:bC),(callFunc i s).run E.P t=.ok (.enter i s) t) (J:∀K∈n,aC E K.2) (A:∀f,Ad ⟨E.tt,n,r,d.ntmps,jR 0 g++nQ (ju 0 g),[],o,ju 0 g,aB,[],E.glob,E.eqs⟩ w (d.body.getD .skip) g e h f=j f):aC E ⟨i,g,h,j⟩:=by
 refine⟨C,λf u p=>?_⟩;rw[show(jw.mk i g h j).x4 f=j f from rfl,<-A f] at p;obtain⟨aq,y,z,N⟩:=Gm (k:=0) (ps:=g) (a:=f) (b:=u);refine rU.Yd D (c:=d.body.getD .skip) (by cases Q:d.body with|none=>grind|some L=>rfl) I (by simp_all) ?_;intro M B l H q G;rw[aq,y];rw[A8] at l q;rw[z] at l;refine l0 (ic:=⟨E.tt,n,r,d.ntmps,jR 0 g++nQ (ju 0 g),[],o,ju 0 g,aB,[],E.glob,E.eqs⟩) ⟨bn,B.symm,l.symm,⟨J,q,F,G,bn,bn⟩,po.nil H⟩ p ?_;intro x S m;cases x with
 |normal=>exact MQ (.inl bn) m
 |ret=>exact MQ (.inr bn) m
 |_=>cases m
def aC.of {fn:Func} {rs:bm aip} {j:hp g->bv (iL g (lE h))} (c:bm (X×jw)) (i:bm (X×ah)) (f:aig) (e:l9) (o:E.P.funcs[a]?=Y fn) (m:fn.body.isSome=bp) (q:fn.results=rs.toArray) (p:b2 g.length fn.ntmps=bp) (n:∀(k:ah6) (l:bC),(callFunc a k).run E.P l=.ok (.enter a k) l) (r:∀s∈c,aC E s.2) (b:∀d,Ad ⟨E.tt,c,i,fn.ntmps,jR 0 g++nQ (ju 0 g),[],f,ju 0 g,[],[],E.glob,E.eqs⟩ e (fn.body.getD .skip) g rs h d=j d):aC E ⟨a,g,h,j⟩:=
 aC.OI c i f e [] (λ_ b=>by cases b) o m q p n r b
def Fo:Code->Code
 |.seq a _=>a
 |c=>c
def QK:Code->Code
 |.seq _ a=>a
 |c=>c
def vw (a:X):Code->bv (bU bR)
 |.region d e _=>if d=a then Y e else bo
 |.seq b c=>(vw a b).orElse λ_=>vw a c
 |.cond _ b c=>(vw a b).orElse λ_=>vw a c
 |.block _ b=>vw a b
 |.loop b=>vw a b
 |_=>bo
def H3 {b:gR} {k:Type} {c:bU bR} {f:aie} {d:aO->bv k}:∀(j:aie) (g:aO),kX b c (j++f) g d=kX b c j g λa=>kX b c f a d
 |[],g=>rfl
 |i::e,g=>by
  have h:(λa=>kX b c (e++f) a d)=λa=>kX b c e a λa=>kX b c f a d:=funext λa=>H3 e a;simp only[nY,kX];split
  ·rfl
  split
  ·rw[h]
  simp only[h,H3 e]
def VW {b:b0} {tt:bm (bF×ah)} (i:∀c f,ar tt c=Y f->fi b f c) {a:tZ} {S:bF} (g:b.underlying a.T=Y (.array a.xs.length S)) (h:ar tt S=Y (.int a.k)):∀e∈[a],KY b e:=λe d=>by rw[gp] at d;subst d;exact⟨S,g,i _ _ h⟩
def Rg:∀b∈([]:bm (X×jw)),aC E b.2:=λ_ a=>by cases a
theorem adQ {c:jw} {d:bm (X×jw)} (f:aC E c) (g:∀b∈d,aC E b.2):∀b∈(a,c)::d,aC E b.2:=λb e=>by grind
end
def vQ:Value->Value->bA
 |.int c a,.int d b=>if c=d/\a=b then bp else bq
 |.bool a,.bool b=>a==b
 |.string a,.string b=>a.data.toList.isEmpty&&b.data.toList.isEmpty
 |.slice bo 0 0,.slice bo 0 0=>bp
 |.map bo,.map bo=>bp
 |.pointer bo,.pointer bo=>bp
 |.nilFunc,.nilFunc=>bp
 |_,_=>bq
def Tp {a:ByteArray} (c:a.data.toList.isEmpty=bp):a=akE:=by
 cases a with|mk b=>cases b with|mk d=>cases d with
  |nil=>rfl
  |cons=>cases c
theorem vQ.ok {c:Value} (a:vQ b c=bp):b=c:=by
 unfold vQ at a;split at a
 ·grind
 ·rw[beq_iff_eq.1 a]
 ·simp_all [Tp,bk]
 ·rfl
 ·rfl
 ·rfl
 ·rfl
 cases a
def vR:ah8->ah8->bA
 |[],[]=>bp
 |a::c,b::d=>vQ a b&&vR c d
 |_,_=>bq
theorem vR.ok:∀{c d:ah8},vR c d=bp->c=d
 |[],[],_=>rfl
 |[],_::_,b=>by cases b
 |_::_,[],b=>by cases b
 |a::c,e::d,b=>by simp only[vR,bk] at b;rw[vQ.ok b.1,vR.ok b.2]
def jo (b:b0) (c:bF) (d:X) (f:Value):bA:=match b.info? c with
 |some a=>bH a.size 1&&b2 a.bytes d&&(match a.zero with|some e=>vQ e f|none=>bq)
 |none=>bq
theorem jo.ok {d:b0} {e:bF} {f:X} {g:Value} (b:jo d e f g=bp):∃a,d.info? e=Y a/\a.size=1/\a.bytes<=f/\a.zero=Y g:=by
 unfold jo at b;split at b
 case h_2=>cases b
 rename_i a j;simp only[bk] at b;obtain⟨⟨h,i⟩,c⟩:=b;split at c
 case h_2=>cases c
 rename_i l k;exact⟨a,j,fu h,gS i,by rw[k,vQ.ok c]⟩
mutual
def hU (b:b0):ah->bF->bA
 |.int g,a=>jo b a 24 (.int g 0)&&(match b.underlying a with|some (.int j)=>if j=g then bp else bq|_=>bq)
 |.bool,a=>jo b a 24 (.bool bq)&&(match b.underlying a with|some .bool=>bp|_=>bq)
 |.str,a=>jo b a 24 (.string akE)&&(match b.underlying a with|some .string=>bp|_=>bq)
 |.a2 _ c,a=>jo b a 24 (.slice bo 0 0)&&(match b.underlying a with|some (.slice d)=>hU b c d|_=>bq)
 |.osl c,a=>jo b a 24 (.slice bo 0 0)&&(match b.underlying a with|some (.slice d)=>hU b c d|_=>bq)
 |.ptr _ c,a=>jo b a 24 (.pointer bo)&&(match b.underlying a with|some (.pointer d)=>hU b c d|_=>bq)
 |.optr c,a=>jo b a 24 (.pointer bo)&&(match b.underlying a with|some (.pointer d)=>hU b c d|_=>bq)
 |.mp c,a=>jo b a 24 (.map bo)&&(match b.underlying a with|some (.map e d)=>(match b.underlying e with|some (.int .i64)=>hU b c d|_=>bq)|_=>bq)
 |.fw _ c,a=>jo b a 24 (.map bo)&&(match b.underlying a with|some (.map e d)=>(match b.underlying e with|some (.int .i64)=>hU b c d|_=>bq)|_=>bq)
 |.fn _ _,a=>jo b a 24 .nilFunc&&(match b.underlying a with|some (.func _ _ _)=>bp|_=>bq)
 |.st c,a=>ca 0 c.size&&match b.info? a with
  |some f=>bH f.size c.size&&b2 f.bytes (24*c.size)&&(match f.zero with
   |some (.agg h)=>bH h.size c.size&&(match b.underlying a with|some (.struct i)=>sQ b c i.toList 0 h.toList|_=>bq)
   |_=>bq)
  |none=>bq
 |_,_=>bq
def sQ (c:b0):ah->bm aiE->X->ah8->bA
 |.pr a f,d::h,e,b=>bH d.offset e&&hU c a d.type&&ca 0 a.size&&(match c.info? d.type with|some g=>(match g.zero with|some i=>vR (b.take a.size) i.cells.toList|none=>bq)|none=>bq)&&sQ c f h (e+a.size) (b.drop a.size)
 |.nil,[],_,b=>b.isEmpty
 |_,_,_,_=>bq
end
mutual
theorem hU.ok {n:b0}:∀{o:ah} {i:bF},hU n o i=bp->fi n o i
 |.int z,i,a=>by
  simp only[hU,bk] at a;obtain⟨c,b⟩:=a;obtain⟨e,aw,f,g,h⟩:=jo.ok c;split at b
  ·rename_i A d;split at b
   ·rename_i p;subst p;exact⟨e,aw,f,g,h,d⟩
   grind
  grind
 |.bool,i,a=>by
  simp only[hU,bk] at a;obtain⟨c,b⟩:=a;obtain⟨e,aw,f,g,h⟩:=jo.ok c;split at b
  ·rename_i d;exact⟨e,aw,f,g,h,d⟩
  grind
 |.str,i,a=>by
  simp only[hU,bk] at a;obtain⟨c,b⟩:=a;obtain⟨e,aw,f,g,h⟩:=jo.ok c;split at b
  ·rename_i d;exact⟨e,aw,f,g,h,d⟩
  grind
 |.a2 _ k,i,a=>by
  simp only[hU,bk] at a;obtain⟨c,b⟩:=a;obtain⟨e,aw,f,g,h⟩:=jo.ok c;split at b
  ·rename_i j d;exact⟨e,j,aw,f,g,h,d,hU.ok b⟩
  grind
 |.osl k,i,a=>by
  simp only[hU,bk] at a;obtain⟨c,b⟩:=a;obtain⟨e,aw,f,g,h⟩:=jo.ok c;split at b
  ·rename_i j d;exact⟨e,j,aw,f,g,h,d,hU.ok b⟩
  grind
 |.ptr _ k,i,a=>by
  simp only[hU,bk] at a;obtain⟨c,b⟩:=a;obtain⟨e,aw,f,g,h⟩:=jo.ok c;split at b
  ·rename_i j d;exact⟨e,j,aw,f,g,h,d,hU.ok b⟩
  grind
 |.optr k,i,a=>by
  simp only[hU,bk] at a;obtain⟨c,b⟩:=a;obtain⟨e,aw,f,g,h⟩:=jo.ok c;split at b
  ·rename_i j d;exact⟨e,j,aw,f,g,h,d,hU.ok b⟩
  grind
 |.mp k,i,a=>by
  simp only[hU,bk] at a;obtain⟨c,b⟩:=a;obtain⟨e,aw,f,g,h⟩:=jo.ok c;split at b
  ·rename_i l j d;split at b
   ·rename_i m;exact⟨e,l,j,aw,f,g,h,d,m,hU.ok b⟩
   grind
  grind
 |.fw _ k,i,a=>by
  simp only[hU,bk] at a;obtain⟨c,b⟩:=a;obtain⟨e,aw,f,g,h⟩:=jo.ok c;split at b
  ·rename_i l j d;split at b
   ·rename_i m;exact⟨e,l,j,aw,f,g,h,d,m,hU.ok b⟩
   grind
  grind
 |.fn _ _,i,a=>by
  simp only[hU,bk] at a;obtain⟨c,b⟩:=a;obtain⟨e,aw,f,g,h⟩:=jo.ok c;split at b
  ·rename_i v w x d;exact⟨e,v,w,x,aw,f,g,h,d⟩
  grind
 |.st k,i,a=>by
  simp only[hU,bk] at a;obtain⟨r,a⟩:=a;split at a
  case h_2=>cases a
  rename_i e t;simp only[bk] at a;obtain⟨⟨c,b⟩,a⟩:=a;split at a
  case h_2=>cases a
  rename_i y u;simp only[bk] at a;obtain⟨s,a⟩:=a;split at a
  case h_2=>cases a
  rename_i q d;exact⟨gS r,e,q,y,t,fu c,gS b,u,d,sQ.ok a,fu s⟩
 |.pr _ _,_,a=>by cases a
 |.nil,_,a=>by cases a
 |.eK,_,a=>by cases a
theorem sQ.ok {f:b0}:∀{g:ah} {b:bm aiE} {d:X} {c:ah8},sQ f g b d c=bp->iB f g b d c
 |.pr h i,[],d,c,a=>by cases a
 |.pr h i,r::s,d,c,a=>by
  simp only[sQ,bk] at a;obtain⟨⟨⟨⟨j,k⟩,l⟩,e⟩,m⟩:=a;split at e
  case h_2=>cases e
  rename_i p n;split at e
  case h_2=>cases e
  rename_i q o;exact⟨fu j,hU.ok k,gS l,⟨p,q,n,o,vR.ok e⟩,sQ.ok m⟩
 |.nil,[],d,c,a=>by have a:c=[]:=(by grind [sQ]);exact a
 |.nil,_::_,d,c,a=>by cases a
 |.int _,b,d,c,a=>by cases b<;>cases a
 |.bool,b,d,c,a=>by cases b<;>cases a
 |.str,b,d,c,a=>by cases b<;>cases a
 |.a2 _ _,b,d,c,a=>by cases b<;>cases a
 |.ptr _ _,b,d,c,a=>by cases b<;>cases a
 |.osl _,b,d,c,a=>by cases b<;>cases a
 |.optr _,b,d,c,a=>by cases b<;>cases a
 |.st _,b,d,c,a=>by cases b<;>cases a
 |.eK,b,d,c,a=>by cases b<;>cases a
end
theorem Rp {e:b0}:∀{tt:bm (bF×ah)},(tt.all λf=>hU e f.2 f.1)=bp->∀a b,ar tt a=Y b->fi e b a
 |[],_,_,_,c=>by cases c
 |(k,g)::r,c,a,b,d=>by
  simp only[r0,bk] at c;rw[ey] at d;split at d
  ·grind [hU.ok]
  exact Rp (by grind) a b d
def Hy (a:b0):ah7->bA
 |[]=>bp
 |T::d=>!a.stoodInHeld T&&(!a.eqGuardType a.depth T&&((match a.underlying T with|some (.struct c)=>c.toList.all λb=>b.name !="_"|_=>bq)&&Hy a d))
def MF {e:b0}:∀{d:ah7},Hy e d=bp->∀b∈d,KH e b
 |[],_,b,a=>by cases a
 |U::d,f,b,a=>by
  simp only[Hy,bk,tE] at f;obtain⟨h,i,c,j⟩:=f;rcases fR.1 a with rfl|a
  ·split at c
   ·rename_i g k;exact⟨h,i,g,k,c⟩
   cases c
  exact MF j b a
end
section
def pD:(i:ah)->i.den->Prop
 |.int g,h=>(Lit.int g h).wf=bp
 |.a2 _ b,c=>c.length<=maxLen/\∀a∈c,pD b a
 |.ptr _ b,a=>∀d,a=Y d->pD b d
 |.st b,a=>pD b a
 |.pr e f,a=>pD e a.1/\pD f a.2
 |_,_=>True
def sh:ah->bA
 |.int _|.bool|.str|.nil=>bp
 |.a2 _ a|.ptr _ a|.st a=>sh a
 |.pr b c=>sh b&&sh c
 |_=>bq
def GC {P:b0} {c:ah} {a:bF} (d:fi P c a):P.cellsOf a=c.size:=by obtain⟨f,e,b,_⟩:=d.info;unfold amC;rw[b.info];simp[b.size]
section
variable {A:Type} {enc:bF×Value->A} {P:b0} {w:bC}
theorem GD {h:X} {b:Addr} {c:ah8} (d:w.cells? h b a=Y c) (f:0<a):b.spot=bo/\c.length=a/\b.block<w.heap.size/\fq w b.block b.off c:=by
 have l:=World.cells?_block d f;obtain⟨_,k,e⟩:=World.cells?_some d;have m:b.spot=bo:=by
  have o:=e 0 f;have:(w.cell? (b.add 0)).isSome=bp:=(by grind);simp only[akW,cj] at this;unfold ajq at this;split at this
  ·cases p:b.spot with
   |none=>rfl
   |some t=>grind
  grind
 refine⟨m,k,l,λg s i=>?_⟩;have j:g<a:=(by grind);have:=e g j;rw[i] at this;rw[<-this];congr 1;unfold akW;obtain⟨n,q,r⟩:=b;grind
def BA (w:bC):eD->X->Prop:=λ_ a=>a<w.heap.size
mutual
theorem FA:∀{τ:ah} {j:bF} {i:ah8} {l:X} {o:DataW A×bm ajR},sh τ=bp->fi P τ j->alS enc P w 0 (λ_=>bp) bp l j i=Y o->∃a:τ.den,aS (BA w) w τ i a []/\pD τ a
 |.int n,j,i,l,o,_,⟨b,_,_,_,_,h⟩,d=>by obtain⟨x,rfl,_,ad⟩:=DataW.trod_int h d;exact⟨x,⟨bn,bn⟩,ad⟩
 |.bool,j,i,l,o,_,⟨b,_,_,_,_,h⟩,d=>by obtain⟨y,rfl,_⟩:=DataW.trod_bool h d;exact⟨y,⟨bn,bn⟩,trivial⟩
 |.str,j,i,l,o,_,⟨b,_,_,_,_,h⟩,d=>by obtain⟨av,rfl,_,_⟩:=DataW.trod_string h d;exact⟨av,⟨bn,bn⟩,trivial⟩
 |.a2 an c,j,i,l,o,g,⟨b,O,_,_,_,_,h,m⟩,d=>by
  rcases DataW.trod_slice h d with⟨rfl,_⟩|⟨e,u,Q,F,ds,x,rfl,rfl,_,_,cv,bx,ce,K,_⟩
  ·exact⟨[],⟨bn,bo,0,bn,bc _,λ_=>rfl,.inl bn⟩,by grind,ac⟩
  have H:=GC m;have L:=m.pos;have E:∀b,b<u->∃a:c.den,∃f:ah8,f.length=c.size/\w.cells? 0 (e.add (b*c.size)) c.size=Y f/\aS (BA w) w c f a []/\pD c a:=by
   intro b v;have s:=K b v;have t:F[b]?=Y (F[b]'(by omega)):=ba _
   rw[t] at s;obtain⟨f,q,z⟩:=eO.1 s;rw[H] at q;obtain⟨a,k,r⟩:=FA (τ:=c) g m z;exact⟨a,f,k.len,q,k,r⟩
  have U:∀n,n<=u->∃p:bm c.den,p.length=n/\∀(b:X) (a:c.den),p[b]?=Y a->∃f:ah8,f.length=c.size/\w.cells? 0 (e.add (b*c.size)) c.size=Y f/\aS (BA w) w c f a []/\pD c a:=by
   intro n
   induction n with
   |zero=>simp_all
   |succ n am=>
    intro ci;obtain⟨p,s,t⟩:=am aa;obtain⟨a,f,q⟩:=E n aa;refine⟨p++[a],by grind,λb M D=>?_⟩;grind
  obtain⟨p,s,t⟩:=U u (bc _);refine⟨p,⟨bn,Y e,Q,by rw[s],aa,(λd=>by cases d),?_⟩,aa,λa k=>?_⟩
  ·cases u with
   |zero=>grind
   |succ u=>
    right;obtain⟨d0,bl,_,I,_⟩:=E 0 aa;have T:e.add (0*c.size)=e:=(by simp[akW]);rw[T] at I;obtain⟨V,_,C,_⟩:=GD I L;refine⟨e.block,e.off,by obtain⟨y,ap,a0⟩:=e;grind,C,λb a k=>?_⟩;obtain⟨f,a3,S,a4,_⟩:=t b a k;obtain⟨_,_,_,G⟩:=GD S L;grind [aq,akW]
  obtain⟨b,v,rfl⟩:=hu.1 k;obtain⟨_,_,_,_,r⟩:=t b _ (ba v);exact r
 |.ptr an c,j,i,l,o,g,⟨b,O,_,_,_,_,h,m⟩,d=>by
  rcases DataW.trod_pointer h d with⟨rfl,_⟩|⟨e,R,a,x,rfl,rfl,_,q,z⟩
  ·exact⟨bo,⟨bn,bn⟩,λa d=>by cases d⟩
  rw[GC m] at q;obtain⟨M,D,r⟩:=FA (τ:=c) g m z;obtain⟨V,_,C,G⟩:=GD q m.pos;refine⟨Y M,⟨bn,e.block,e.off,R,by obtain⟨y,ap,a0⟩:=e;grind,C,D.len,G,D⟩,λa d=>by grind⟩
 |.st c,j,i,l,o,g,⟨_,b,N,d1,v,c1,_,_,h,J,_⟩,d=>by
  obtain⟨p,x,rfl,_,co,c2,K⟩:=DataW.trod_struct h d;have H:P.cellsOf j=c.size:=(by grind [amC]);obtain⟨a,k,r⟩:=Rn (τ:=c) (fs:=N.toList) (cs:=i) g J aa (λdl bs J=>by
   grind)
  rw[lP] at k;exact⟨a,k,r⟩
 |.osl _,_,_,_,_,g,_,_=>by cases g
 |.optr _,_,_,_,_,g,_,_=>by cases g
 |.pr _ _,_,_,_,_,_,B,_=>B.elim
 |.nil,_,_,_,_,_,B,_=>B.elim
 |.eK,_,_,_,_,g,_,_=>by cases g
theorem Rn:∀{τ:ah} {fs:bm aiE} {c:X} {f cs:ah8},sh τ=bp->iB P τ fs c f->cs.length=c+τ.size->(∀(e:X) b,fs[e]?=Y b->∃(j:X) (k:DataW A×bm ajR),alS enc P w 0 (λ_=>bp) bp j b.type ((cs.drop b.offset).take (P.cellsOf b.type))=Y k)->∃l:τ.den,aS (BA w) w τ (cs.drop c) l []/\pD τ l
 |.pr y z,b::D,c,f,cs,d,p,r,i=>by simp only[sh,bk] at d;obtain⟨n,g,B,_,o⟩:=p;obtain⟨j,k,h⟩:=i 0 b bn;rw[n,GC g] at h;obtain⟨v,s,t⟩:=FA d.1 g h;obtain⟨x,C,u⟩:=Rn (cs:=cs) d.2 o (by grind [aiG]) (λe m q=>i (e+1) m q);exact⟨(v,x),⟨[],[],bn,s,by simp_all⟩,t,u⟩
 |.nil,[],c,f,cs,_,_,r,_=>by refine⟨(),⟨bn,?_⟩,trivial⟩;grind [List.drop_eq_nil_iff,aiG]
 |.pr _ _,[],_,_,_,_,a,_,_=>a.elim
 |.nil,_::_,_,_,_,_,a,_,_=>a.elim
 |.int _,fs,_,_,_,_,a,_,_=>by cases fs<;>exact a.elim
 |.bool,fs,_,_,_,_,a,_,_=>by cases fs<;>exact a.elim
 |.str,fs,_,_,_,_,a,_,_=>by cases fs<;>exact a.elim
 |.a2 _ _,fs,_,_,_,_,a,_,_=>by cases fs<;>exact a.elim
 |.ptr _ _,fs,_,_,_,_,a,_,_=>by cases fs<;>exact a.elim
 |.osl _,fs,_,_,_,_,a,_,_=>by cases fs<;>exact a.elim
 |.optr _,fs,_,_,_,_,a,_,_=>by cases fs<;>exact a.elim
 |.st _,fs,_,_,_,_,a,_,_=>by cases fs<;>exact a.elim
 |.eK,fs,_,_,_,_,a,_,_=>by cases fs<;>exact a.elim
end
theorem aa2 {g:ah} {h:bF} (l:sh g=bp) (e:fi P g h) (d:ajS P w .any a h b):b=cW g b.cells.toList:=by
 cases g with
 |int r=>
  obtain⟨f,_,_,_,_,c⟩:=e;obtain⟨i,rfl⟩:=anA c d;rfl
 |bool=>
  obtain⟨f,_,_,_,_,c⟩:=e;obtain⟨i,rfl⟩:=anB c d;rfl
 |str=>
  obtain⟨f,_,_,_,_,c⟩:=e;obtain⟨i,rfl⟩:=anC c d;rfl
 |a2 m j=>
  obtain⟨f,k,_,_,_,_,c,_⟩:=e;obtain⟨n,s,o,rfl⟩:=anD c d;rfl
 |ptr m j=>
  obtain⟨f,k,_,_,_,_,c,_⟩:=e;simp only[ajS,c,Cell.okWide] at d;cases b<;>first|rfl|simp_all [Cell.ok]
 |st j=>
  obtain⟨_,f,q,t,_,_,_,_,c,_,_⟩:=e;simp only[ajS,c] at d;obtain⟨p,rfl,_⟩:=d;rfl
 |_=>first|(cases l;done)|exact e.elim
def wu (P:b0):bm hl->ah7->bA
 |[],[]=>bp
 |.v a::c,b::d=>sh a&&hU P a b&&wu P c d
 |_,_=>bq
def pE:(d:bm hl)->hp d->Prop
 |[],_=>True
 |.v e::b,a=>pD e a.1/\pE b a.2
 |.m _::b,a=>pE b a.2
 |.o _::b,a=>pE b a.2
 |.c _ _::b,a=>pE b a.2
 |.n::b,a=>pE b a.2
 |.w _::b,a=>pE b a.2
 |.s _ _::b,a=>pE b a.2
def Lr {P:b0}:∀{ps:bm hl} {b:ah7} {k:X},wu P ps b=bp->ju k ps=bo
 |[],_,_,_=>rfl
 |.v g::d,e::f,k,a=>by simp only[wu,bk] at a;exact Lr (ps:=d) (k:=k+1) a.2
 |.v _::_,[],_,a=>by cases a
 |.m _::_,b,_,a=>by cases b<;>cases a
 |.o _::_,b,_,a=>by cases b<;>cases a
 |.c _ _::_,b,_,a=>by cases b<;>cases a
 |.n::_,b,_,a=>by cases b<;>cases a
 |.w _::_,b,_,a=>by cases b<;>cases a
 |.s _ _::_,b,_,a=>by cases b<;>cases a
def A0 {b:Type}:bm b->ev
 |[]=>[]
 |_::a=>[]::A0 a
theorem Fc {b:Type}:∀a:bm b,(A0 a).flatten=[]
 |[]=>rfl
 |_::a=>by simp only[A0,lQ,Fc a,ir]
theorem Lt:∀{f:bm hl} {l:ah7} {base:X} {b:ah8} {i:bm (DataW A)} {r:bm ajR},wu P f l=bp->ajT enc P w 0 (λ_=>bp) bp l b i r->(∀(j:X) k g,l[j]?=Y k->b[j]?=Y g->ajS P w .any base k g)->∃h:hp f,pE f h/\∀{x:Type} (d:iL f x),mg (yi (λd=>d<w.heap.size) (λ_=>b6) w) (gF f h d) b (A0 b)
 |[],[],base,b,i,r,_,q,_=>by cases b<;>cases i<;>first|exact⟨(),trivial,λ_=>trivial⟩|exact q.elim
 |.v U::Q,y::x,base,b,i,r,e,q,u=>by
  simp only[wu,bk] at e;obtain⟨⟨s,z⟩,B⟩:=e;obtain⟨g,T,K,L,R,S,rfl,rfl,rfl,p,C⟩:=alT q;obtain⟨M,p⟩:=p;have t:=hU.ok z;obtain⟨J,G,F⟩:=FA s t p;obtain⟨h,D,E⟩:=Lt B C (λj k I N O=>u (j+1) k I (by grind) (by grind));refine⟨(J,h),⟨F,D⟩,λd=>⟨⟨bn,g.cells.toList,aa2 s t (u 0 y g bn rfl),?_⟩,E d⟩⟩;exact G.mono (λH d e=>⟨by cases H with
   |bg=>exact e
   |de=>exact .inl e,cq _ _⟩) ac
 |[],_::_,_,_,_,_,a,_,_=>by cases a
 |.v _::_,[],_,_,_,_,a,_,_=>by cases a
 |.m _::_,_,_,_,_,_,a,_,_=>by cases a
 |.o _::_,_,_,_,_,_,a,_,_=>by cases a
 |.c _ _::_,_,_,_,_,_,a,_,_=>by cases a
 |.n::_,_,_,_,_,_,a,_,_=>by cases a
 |.w _::_,_,_,_,_,_,a,_,_=>by cases a
theorem Rm {P:b0} (k:laidOutB P=bp) {i j:bC} {o:X->bA}:∀{e:ah7} {d:ah8} {c:bm (DataW A)} {b:bm ajR},(∀g∈e,P.readableRec g=bp/\g<P.types.size)->ajT enc P i 0 (λ_=>bp) bp e d c b->(∀a∈b,i.sameAt j a)->(∀a∈b,o a.block=bp)->ajT enc P j 0 o bp e d c b
 |[],d,c,b,_,f,_,_=>by cases d<;>cases c<;>first|exact f|exact f.elim
 |T::e,d,c,b,l,f,m,n=>by obtain⟨y,z,v,w,r,s,rfl,rfl,rfl,p,q⟩:=alT f;obtain⟨t,u⟩:=l T ac;exact⟨r,s,anE k t u p (λa h=>m a (by grind)) (λa h=>n a (by grind)),Rm k (λg x=>l g (by grind)) q (λa h=>m a (by grind)) (λa h=>n a (by grind)),bn⟩
theorem WM {E:fA} {F:jw} {h:Func} {l:ChangeSpec} {T:bF} (bl:aC E F) (eq:laidOutB E.P=bp) (d0:(h.params.toList.all λe=>E.P.readableRec e&&ca e E.P.types.size)=bp) (U:wu E.P F.ps h.params.toList=bp) (_hrs:F.rs=[.bool]) (I:h.resultTypes=#[T]) (u:E.P.underlying T=Y .bool) (an:l.vars=[]) (ft:∀d:bm (DataW A),d.length=h.params.toList.length->l.fn A d=⟨[.lit (.bool bp)],d,[]⟩) (d4:∀t,pE F.ps t->∃b,F.x4 t=Y b/\iT F.rs (ik F.ps b)=[⟨.bool,bp⟩]) {G a3 ci a0:bA} {p:ah6} {d z:bm (DataW A)} {i:bm ajR} (d5:∀(r:X) e o,h.params[r]?=Y e->p[r]?=Y o->ajS E.P c .any a e o) (J:DataW.Whole enc E.P h.params.toList l.vars G c p.toList d z i) (bs:lg E (λb=>b<c.heap.size) c):Calls E.P F.f p c λH g=>∃o,H=.returned o/\l.post enc E.P h G a3 ci a0 c p o g:=by
 have K:=J;obtain⟨C,d6,a4,B,S,cs,ex⟩:=J;rw[an] at B;have cv:z=[]/\d6=[]:=by cases z with
  |nil=>exact⟨bn,B⟩
  |cons=>exact B.elim
 obtain⟨rfl,rfl⟩:=cv;rw[mK] at S;subst S;obtain⟨t,ds,ce⟩:=Lt (w:=c) (base:=a) U a4 (λr e o ad am=>d5 r e o (by grind) (by grind));obtain⟨b,bx,d1⟩:=d4 t ds;have em:∀{s:ah7} {D:ah8} {d:bm (DataW A)} {C:bm ajR},ajT enc E.P c 0 (λ_=>bp) bp s D d C->d.length=s.length:=by
  intro s
  induction s with
  |nil=>intro D d C q;cases D<;>cases d<;>first|rfl|exact q.elim
  |cons T s fT=>
   grind [alT]
 have O:l.fn A (d++[])=⟨[.lit (.bool bp)],d,[]⟩:=(by grind);have R:=K.lt;have M:=bl.2 t b bx c (λb=>b<c.heap.size) (λ_=>b6) p.toList (A0 p.toList) (λb q=>q.elim id (λq=>q.elim)) (ce b) (by grind [Fc]) (by rw[Fc];simp) (by rw[A8,Lr U];trivial);rw[amD] at M;refine(M bs).mono ?_;rintro H g ⟨d7,d9,v,y,rfl,n⟩;refine⟨_,bn,?_⟩;have d3:qg y=.bool bp:=by
  have:=n.res;rw[d1] at this;cases y with
  |nil=>cases v<;>exact this.elim
  |cons o y=>
   cases v with
   |nil=>exact this.elim
   |cons ek v=>
    obtain⟨⟨d8,am,_,rfl⟩,d2⟩:=this;cases y with
    |nil=>exact am
    |cons=>cases v<;>exact d2.elim
 have Q:∀b,b<c.heap.size->g.heap[b]?=c.heap[b]?:=λb u=>n.heap b u (by rw[Fc];simp);have fp:∀j∈i,c.sameAt g j:=λj x=>by
  have:=Q j.block (R j x);cases j with
  |cell b k=>show g.cell? _=c.cell? _;unfold ajq;rw[show g.heap[b]?=c.heap[b]? from this]
  |map b=>exact this
 have co:∀b k,amE b k∈i->g.frozen? ⟨b,k,bo⟩=c.frozen? ⟨b,k,bo⟩:=λb k x=>(by unfold akI;rw[show g.heap[b]?=c.heap[b]? from Q b (R _ x)]);rw[d3];have fl:∀e∈h.params.toList,E.P.readableRec e=bp/\e<E.P.types.size:=λe ad=>(by have:=g0.1 d0 e ad;simp_all);have L:∀m:X->bA,(∀j∈i,m j.block=bp)->ajT enc E.P g 0 m bp h.params.toList p.toList (l.fn A (d++[])).args i:=λm fs=>(by grind [Rm]);have V:∀(b:X) (m:X->bA) (N:bA),ajT enc E.P g b m N h.resultTypes.toList ((amF bp).resultList h.resultTypes.size) (l.fn A (d++[])).results []:=λb m N=>(by rw[O,I];exact anF ⟨1,by unfold alS;rw[u];rfl⟩);have ap:∀m:X->bA,DataW.TrodVars enc E.P g m l.vars (l.fn A (d++[])).vars []:=λm=>(by rw[O,an];rfl);have c2:∀(r:X) (e:bF) (av:Value),h.resultTypes[r]?=Y e->((amF bp).resultList h.resultTypes.size)[r]?=Y av->ajS E.P g .any 0 e av:=
  Go.RowKit.ok_one I bn (Go.RowKit.okWide_bool_mk u bp)
 have dl:∀j∈i,(λb=>br (b<c.heap.size)) j.block=bp:=λj x=>(by grind);have c1:c.keptBut g (λ_=>b6):=(by refine⟨n.os,n.output,λfz el=>?_⟩;grind);refine⟨d,[],i,[],i,[],K,V _ _ _,L _ dl,ap _,World.keptBut_mono (λ_ q=>q.elim) c1,λ_=>?_⟩;refine⟨c2,_,_,([]++i)++[],⟨[]++i,[],anG (L _ (λ_ _=>rfl)) (V _ _ _),ap _,bn,?_,?_⟩,?_⟩
 ·intro b k n;have n:amE b k∈i:=(by grind);rw[co b k n];exact cs b k n
 ·grind
 grind
end
end
section
inductive FN where
 |a
 |b (f:aie)
 |c (f m:aie)
def Hn (a:X):X:=a/32+a %32*500000
abbrev abZ (a:X):X×oK:=(a,.s (.ref a []))
abbrev Ks (a:X):X×oK:=(a,.v (.int .i64))
inductive oE where
 |l
 |o (a:oE)
 |t (j:FSq) (a b:oE)
 |n (b:oE)
 |p (Bc:ni) (m:FT) (a:oE)
 |k (l:aie) (a:oE)
 |z (F:aie) (a:oE)
 |d (L:bm FN)
def Fi (b:bU bR) (a:X) (f c:aie):lN:=match b[a]? with
 |some d=>⟨a,dl d,d.looksAt b,qd b a,f,c⟩
 |none=>⟨a,[],[],[],f,c⟩
def DI (d:bU bR):X->bm FN->bm lN
 |_,[]=>[]
 |i,.a::e=>Fi d i [] []::DI d (i+1) e
 |i,.b f::e=>Fi d i (f.map Hn) []::DI d (i+1) e
 |i,.c f g::e=>Fi d i (f.map Hn) (g.map Hn)::DI d (i+1) e
def sO:Code->l9
 |.seq a b=>.two .none (sO a) (sO b)
 |.cond _ a b=>.two .none (sO a) (sO b)
 |.block _ a=>.one (sO a)
 |.region _ c bp=>.draw ((bI c.size).map λd=>Fi c d [] [])
 |_=>.leaf
def AM:X->X->bm aZ
 |0,_=>[]
 |k+1,a=>match a %5 with
  |1=>.deref::AM k (a/5)
  |2=>.unst::AM k (a/5)
  |3=>.fst::AM k (a/5)
  |4=>.snd::AM k (a/5)
  |_=>[]
def oE.ex:oE->Code->l9
 |.l,a=>sO a
 |.o b,.block _ a=>.one (b.ex a)
 |.t J b c,.seq a e=>.two J (b.ex a) (c.ex e)
 |.t J b c,.cond _ a e=>.two J (b.ex a) (c.ex e)
 |.n c,.seq a e=>.two .none (sO a) (c.ex e)
 |.n c,.cond _ a e=>.two .none (sO a) (c.ex e)
 |.p j h b,.loop a=>.loop j h (b.ex a)
 |.k g b,a=>.keep g (b.ex a)
 |.z f b,a=>match f with
  |[q]=>bif b2 1000000 q then .fp (q %1000000) (AM 12 (q/1000000)) (b.ex a) else bif bH q 888888 then .yU else .p4 f (b.ex a)
  |_=>.p4 f (b.ex a)
 |.d g,.region _ i _=>.draw (DI i 0 g)
 |_,_=>.leaf
def yE (E:fA):Type:={a:bm (X×jw)//∀b∈a,aC E b.2}
def aF {E:fA}:yE E:=⟨[],Rg⟩
def aj {E:fA} {a:jw} (c:aC E a) (b:yE E):yE E:=⟨(a.f,a)::b.1,adQ c b.2⟩
section
variable {E:fA} {f:X} {fn:Func} {ps:bm hl} {C:bm ah} {D:hp ps->bv (iL ps (lE C))}
def aC.q (d:yE E) (l:oE) (k:E.P.funcs[f]?=Y fn) (j:∀(h:ah6) (i:bC),(callFunc f h).run E.P i=.ok (.enter f h) i) (g:bm (X×ah):=[]) (e:aig:=[]) (a:(fn.body.isSome&&b2 ps.length fn.ntmps)=bp:=by kernel_rfl) (c:∀b,Ad ⟨E.tt,d.1,g,fn.ntmps,jR 0 ps++nQ (ju 0 ps),[],e,ju 0 ps,[],[],E.glob,E.eqs⟩ (l.ex (fn.body.getD .skip)) (fn.body.getD .skip) ps fn.results.toList C b=D b:=by intro b;kernel_rfl):aC E ⟨f,ps,C,D⟩:=
 have a:=bk _ _▸a
 aC.OI d.1 g e _ [] (λ_ c=>by cases c) k a.1 amD.symm a.2 j d.2 c
end
end
def k2 (a:X):X×X:=bif ca (a %32) 28 then(a %32,a/32) else bif bH (a %32) 31 then(a/32 %134217728,a/4294967296) else((a %32-28)*256+a/32 %256+28,a/8192)
def nM {c:Type} (b:X->c×X):X->X->bm c×X
 |0,a=>([],a)
 |k+1,a=>match a %2 with
  |0=>([],a/2)
  |_=>match b (a/2) with
   |(x,t)=>match nM b k t with
    |(l,u)=>(x::l,u)
def JB (a:bm ah) (b:X):ah×X:=match k2 b with
 |(i,t)=>(a.getD i .nil,t)
def nN {a b:Type} (c:X->a×X) (d:X->b×X) (e:X):(a×b)×X:=match c e with
 |(x,t)=>match d t with
  |(y,u)=>((x,y),u)
def acb (b:bm ah) (a:X):(X×oK)×X:=match a %4 with
 |0=>match k2 (a/4) with
  |(k,t)=>(abZ k,t)
 |1=>match k2 (a/4) with
  |(k,t)=>(Ks k,t)
 |2=>match nN k2 (JB b) (a/4) with
  |((k,x),t)=>((k,.v x),t)
 |_=>match nN k2 k2 (a/4) with
  |((k,x),t)=>((k,.s (.ref x [])),t)
def AW (a:bm ah) (b:X):ni×X:=match nN (nM (acb a) 99) (nM (nN k2 (JB a)) 99) b with
 |((x,y),t)=>(⟨x,y⟩,t)
def aca (b:bm ah) (a:X):FSq×X:=match a %3 with
 |0=>(.none,a/3)
 |1=>match nN (nM k2 99) (AW b) (a/3) with
  |((x,y),t)=>(.x x y,t)
 |_=>match nN (nM k2 99) (AW b) (a/3) with
  |((x,y),t)=>(.vO x y,t)
def acc (b:bm ah) (a:X):FT×X:=match a %3 with
 |0=>(.r,a/3)
 |1=>match nN k2 (AW b) (a/3) with
  |((x,y),t)=>(.x x y,t)
 |_=>match nN k2 (AW b) (a/3) with
  |((x,y),t)=>(.vO x y,t)
def Jz (a:X):X×X:=match a %2 with
 |0=>match k2 (a/2) with
  |(k,t)=>(k*32,t)
 |_=>match k2 (a/64) with
  |(k,t)=>(k*32+a/2 %32,t)
def ab9 (d:X):FN×X:=match d %3 with
 |0=>(.a,d/3)
 |1=>match nM Jz 99 (d/3) with
  |(x,t)=>(.b x,t)
 |_=>match nN (nM Jz 99) (nM Jz 99) (d/3) with
  |((x,y),t)=>(.c x y,t)
def tn (e:bm ah):X->X->oE×X
 |0,c=>(.l,c)
 |k+1,c=>match c %8 with
  |0=>(.l,c/8)
  |1=>match tn e k (c/8) with
   |(a,t)=>(.o a,t)
  |2=>match aca e (c/8) with
   |(f,t)=>match tn e k t with
    |(a,t)=>match tn e k t with
     |(b,t)=>(.t f a b,t)
  |3=>match tn e k (c/8) with
   |(a,t)=>(.n a,t)
  |4=>match nN (AW e) (acc e) (c/8) with
   |((x,y),t)=>match tn e k t with
    |(a,t)=>(.p x y a,t)
  |5=>match nM k2 99 (c/8) with
   |(x,t)=>match tn e k t with
    |(a,t)=>(.k x a,t)
  |6=>match nM k2 99 (c/8) with
   |(x,t)=>match tn e k t with
    |(a,t)=>(.z x a,t)
  |_=>match nM ab9 999 (c/8) with
   |(x,t)=>(.d x,t)
def JA (b:bm ah) (c:X):oE×bm (X×ah)×aig:=match tn b 999 c with
 |(a,t)=>match nN (nM (nN k2 (JB b)) 99) (nM (nN k2 k2) 99) t with
  |((x,y),_)=>(a,x,y)
def TN {c:b0} {b:Func} (i:c.funcs[a]?=Y b) (j:(b.name=="runtime.NumGoroutine")=bq) (h:b.body.isSome=bp) (d:ah6) (e:bC):(callFunc a d).run c e=.ok (.enter a d) e:=by have f:b.name≠"runtime.NumGoroutine":=(by simpa using j);obtain⟨k,g⟩:=FX.1 h;simp[callFunc,i,f,g,Sem.run]
section
def ae {α:Type} (c:bv α) (b:α->Prop):Prop:=∃a,c=Y a/\b a
section
variable {α A σ ρ τ:Type}
theorem ae.af {a:α} {b:α->Prop}:ae (Y a) b↔b a:=⟨λ⟨_,c,d⟩=>by grind,λc=>⟨a,bn,c⟩⟩
theorem ae.tc {a:α->Prop}:ae bo a↔False:=⟨(λ⟨_,b,_⟩=>by cases b),False.elim⟩
theorem ae.e6 {x:bv α} {b:α->bv A} {a:A->Prop}:ae (x.bind b) a↔ae x (λc=>ae (b c) a):=by
 cases x with
 |none=>grind [ae.tc]
 |some c=>grind [ae.af]
theorem ae.IB {a:bv α} {c:α->A} {b:A->Prop}:ae (a.map c) b↔ae a (λd=>b (c d)):=by
 cases a with
 |none=>grind [ae.tc]
 |some d=>grind [ae.af]
theorem ae.fb {b:bA} {c d:bv α} {a:α->Prop}:ae (bif b then c else d) a↔(b=bp->ae c a)/\(b=bq->ae d a):=by grind
theorem ae.mono {c:bv α} {P b:α->Prop} (d:ae c P) (g:∀a,P a->b a):ae c b:=let⟨a,e,f⟩:=d;⟨a,e,g a f⟩
def ae.eq_iff {c:bv α} {b:α}:ae c (· =b)↔c=Y b:=⟨λ⟨e,a,d⟩=>by rw[a,d],λa=>⟨b,a,bn⟩⟩
theorem ae.M7 {a:bm α} {b:α->Prop}:ae (ao a d) b↔∃(e:d.toNat<a.length),0<=d/\b a[d.toNat]:=by
 unfold ao;by_cases c:0<=d
 ·rw[au c];grind [ajU,ae.tc,bS,ae.af]
 rw[az c,ae.tc];grind
theorem ae.ky {b:bm α} {c:α->Prop}:ae (ao b (a:Z)) c↔∃(d:a<b.length),c b[a]:=by rw[ae.M7];simp
theorem ae.Ef:ae (bj a d) j↔(0<=d/\d.toNat<a)/\j d.toNat:=by
 unfold bj;by_cases b:0<=d/\d.toNat<a
 ·simp_all [au,ae.af]
 rw[az b,ae.tc];simp[b]
theorem ae.xC {b:bt->Prop}:ae (cC a) b↔a<=hC/\b ():=by
 unfold cC;by_cases c:a<=hC
 ·simp_all [au,ae.af]
 rw[az c,ae.tc];simp[c]
theorem ae.IA {a:Z}:ae (fV d a) j↔(0<=d/\d<=a/\a<=(hC:Z))/\j d.toNat:=by
 unfold fV;by_cases b:0<=d/\d<=a/\a<=(hC:Z)
 ·simp_all [au,ae.af]
 rw[az b,ae.tc];simp[b]
def a9 (d:bm α) (c:X) (b:α->bv A):bv A:=match d[c]? with
 |some a=>b a
 |none=>bo
theorem ae.BQ {b:bm α} {d:α->bv A} {c:A->Prop}:ae (a9 b a d) c↔∃(e:a<b.length),ae (d b[a]) c:=by grind [ajU,ae.tc,bS,a9]
theorem ae.loop {g:σ->bv (σ⊕ρ)} {f:ρ->Prop} (d:σ->Prop) (e:σ->X) {a:σ} (m:d a) (k:∀a,d a->ae (g a) (λ|.inl l=>d l/\e l<e a|.inr b=>f b)):ae (loop g a) f:=by
 have o:∀c a,e a<=c->d a->∃b,jZ g (c+1) a=Y b/\f b:=by
  intro c
  induction c with
  |zero=>
   intro a n j;obtain⟨p,h,i⟩:=k a j;grind [jZ]
  |succ c q=>
   intro a n j;obtain⟨p,h,i⟩:=k a j;grind [jZ]
 obtain⟨b,h,i⟩:=o (e a) a (bc _) m;exact⟨b,xF.2 ⟨_,h⟩,i⟩
theorem ae.for {h:Z×τ->bv ((Z×τ)⊕ρ)} {g:ρ->Prop} (b:X) (e:X->τ->Prop) {i0:X} {m:τ} (o:d=(i0:Z)) (n:e i0 m) (k:i0<=b) (q:∀a c,i0<=a->a<b->e a c->ae (h ((a:Z),c)) (λ|.inl l=>l.1=((a+1:X):Z)/\e (a+1) l.2|.inr i=>g i)) (s:∀c,e b c->ae (h ((b:Z),c)) (λ|.inl _=>b6|.inr i=>g i)):ae (jg.loop h (d,m)) g:=by
 subst o;refine ae.loop (λf=>∃a:X,i0<=a/\a<=b/\f.1=(a:Z)/\e a f.2) (λf=>b-f.1.toNat) ⟨i0,bc _,k,bn,n⟩ ?_;rintro⟨t,c⟩ ⟨a,p,k,rfl,r⟩;rcases cQ a b with j|j
 ·refine(q a c p j r).mono ?_;grind
 grind [mono]
end
theorem aeB (a:Z):bK.wrap a=if(9223372036854775808:Z)<=a %18446744073709551616 then a %18446744073709551616-18446744073709551616 else a %18446744073709551616:=by
 unfold ajV;by_cases b:(9223372036854775808:Z)<=a %18446744073709551616
 ·rw[au b];exact au (show(bp&&br (a %18446744073709551616>=(9223372036854775808:Z)))=bp by simp[b])
 rw[az b];exact az (show¬(bp&&br (a %18446744073709551616>=(9223372036854775808:Z)))=bp by simp[b])
theorem wrap64 (a:-9223372036854775808<=d) (b:d<=9223372036854775807):bK.wrap d=d:=by grind [aeB]
theorem iO (b:a<9223372036854775807):bK.wrap ((a:Z)+1)=((a+1:X):Z):=by grind [wrap64]
end
section
abbrev al {α:Type} (a:bm α):Z:=((a.length:X):Z)
abbrev ax (a:Z):Z:=bK.wrap a
abbrev aM (a:Z):Z:=bE.wrap a
abbrev dd (a:Z):Z:=cc.wrap a
abbrev aP (a:Z):Z:=bK.wrap (a+1)
def rd {α A:Type} (a:bm α) (c:Z) (e:α->bv A):bv A:=(bj a.length c).bind λd=>(a9 a d λb=>Y b).bind e
def wr {α A:Type} (a:bm α) (c:Z) (e:α) (d:bm α->bv A):bv A:=(bj a.length c).bind λb=>(a9 a b λ_=>Y (a.set b e)).bind d
section
variable {α A:Type}
def lF {b:bm α} (d:a<b.length) (c:α->bv A):rd b (a:Z) c=c b[a]:=by unfold rd bj;rw[au ⟨aa,by simpa using d⟩];show(a9 b (a:Z).toNat _).bind c=_;unfold a9;rw[fJ,ba d];rfl
def acd {b:bm α} {c:α} (f:0<=d) (e:b[d.toNat]?=Y c) (a:α->bv A):rd b d a=a c:=by obtain⟨g,h⟩:=hH.1 e;obtain⟨j,rfl⟩:=gh f;have i:j<b.length:=g;exact(lF i a).trans (b4 a h)
theorem lJ {b:bm α} (d:a<b.length) (e:α) (c:bm α->bv A):wr b (a:Z) e c=c (b.set a e):=by unfold wr bj;rw[au ⟨aa,by simpa using d⟩];show(a9 b (a:Z).toNat _).bind c=_;unfold a9;rw[fJ,ba d];rfl
end
end
def Cg:ea->aic:=λ(e,h,_)=>(loop (σ:=ej) (ρ:=ed) (λ(f,c,_)=>bif br (c<((e.length:X):Z)) then(bB (α:=eo⊕dL) ((ao e c).bind λd=>bB (α:=bt⊕(eo⊕dL)) (bw (br (d<=f)==bq) (bw (br (d>=h)) (Y (.inr (.inr (.inr (.inr (bq,())))))) (Y (.inl ()))) (Y (.inr (.inr (.inr (.inr (bq,()))))))) λa=>match a with
 |.inl _=>(Y (.inl (d,())))
 |.inr b=>Y b) λa=>match a with
 |.inl (g,_)=>(Y (.inl (g,bK.wrap (c+(1:Z)),())))
 |.inr b=>Y b) else Y (.inr (.inl ()))) ((-1:Z),(0:Z),())).bind λa=>match a with
 |.inl _=>(Y (bp,()))
 |.inr b=>Y b
def sr:eo->aic:=λ(a,_)=>Y ((a !=a),())
def ur:ej->aic:=λ(a,b,_)=>(sr (a,())).bind λ(c,_)=>(bw (c==bp) ((sr (b,())).bind λ(aJ,_)=>bw ((!aJ)==bq) (Y (br (a<b),())) (Y (bp,()))) (Y (br (a<b),())))
def C2:eo->aic:=λ(a,_)=>Y ((a !=a),())
def uA:ea->bv eg:=λ(b,e,_)=>(loop (σ:=ej) (ρ:=eo) (λ(c,d,_)=>bw (br (c<d)) ((eJ bE (bE.wrap (bK.wrap (c+d))) (1:Z)).bind λf=>(ao b (bK.wrap f)).bind λk=>(ur (k,e,())).bind λ(i,_)=>bw i (Y (.inl (bK.wrap (bK.wrap f+(1:Z)),d,()))) (Y (.inl (c,bK.wrap f,())))) (Y (.inr (c,())))) ((0:Z),((b.length:X):Z),())).bind λ(a,_)=>(bw (br (a<((b.length:X):Z))==bp) ((ao b a).bind λl=>bw ((l==e)==bq) ((ao b a).bind λj=>(C2 (j,())).bind λ(g,_)=>bw (g==bp) ((C2 (e,())).bind λ(h,_)=>Y (a,h,())) (Y (a,bq,()))) (Y (a,bp,()))) (Y (a,bq,())))
def wP:(dW×Z×Z×bt)->aic:=λ(a,c,d,_)=>(ao a.1 c).bind λe=>(uA (e,d,())).bind λ(_,b,_)=>Y (b,())
def y7:dR->aid:=λ(a,_)=>(bif br ((((a.1).length:X):Z)>(200:Z)) then Y ((6:Z),()) else((loop (σ:=eo) (ρ:=ee) (λ(d,_)=>bif br (d<(((a.1).length:X):Z)) then(bB (α:=bt⊕dQ) ((ao a.1 d).bind λj=>(Cg (j,(((a.1).length:X):Z),())).bind λ(aJ,_)=>bw ((!aJ)==bq) ((wP (a,d,d,())).bind λ(i,_)=>bw i (Y (.inr (.inr (.inr ((1:Z),()))))) (Y (.inl ()))) (Y (.inr (.inr (.inr ((1:Z),())))))) λb=>match b with
 |.inl _=>(Y (.inl (bK.wrap (d+(1:Z)),())))
 |.inr c=>Y c) else Y (.inr (.inl ()))) ((0:Z),())).bind λb=>match b with
 |.inl _=>((loop (σ:=eo) (ρ:=ee) (λ(e,_)=>bif br (e<(((a.1).length:X):Z)) then((ao a.1 e).bind λg=>(loop (σ:=eo) (ρ:=dI) (λ(f,_)=>bw (br (f<((g.length:X):Z))) ((ao g f).bind λk=>(wP (a,k,e,())).bind λ(h,_)=>bw (!h) (Y (.inr (.inr (.inr (.inr ((1:Z),())))))) (Y (.inl (bK.wrap (f+(1:Z)),())))) (Y (.inr (.inl ())))) ((0:Z),())).bind λb=>match b with
 |.inl _=>(Y (.inl (bK.wrap (e+(1:Z)),())))
 |.inr c=>Y c) else Y (.inr (.inl ()))) ((0:Z),())).bind λb=>match b with
 |.inl _=>(Y ((0:Z),()))
 |.inr c=>Y c)
 |.inr c=>Y c))
def q0:(aif×aif×bt)->aic:=λ(b,c,_)=>(bif ((b.length:X):Z)!=((c.length:X):Z) then Y (bq,()) else((loop (σ:=eo) (ρ:=ed) (λ(a,_)=>bw (br (a<((b.length:X):Z))) ((ao b a).bind λf=>(ao c a).bind λg=>bw (f !=g) (Y (.inr (.inr (bq,())))) (Y (.inl (bK.wrap (a+(1:Z)),())))) (Y (.inr (.inl ())))) ((0:Z),())).bind λd=>match d with
 |.inl _=>(Y (bp,()))
 |.inr e=>Y e))
def zw:eh->aic:=λ(b,_)=>(loop (σ:=eo) (ρ:=ed) (λ(a,_)=>bw (br (a<((b.length:X):Z))) ((ao b a).bind λe=>(ao b (bK.wrap (a-(1:Z)))).bind λf=>bw (br (e<=f)) (Y (.inr (.inr (bq,())))) (Y (.inl (bK.wrap (a+(1:Z)),())))) (Y (.inr (.inl ())))) ((1:Z),())).bind λc=>match c with
 |.inl _=>(Y (bp,()))
 |.inr d=>Y d
def zI:dU->bv dR:=λ(f,_)=>(loop (σ:=dr) (ρ:=dt) (λ(b,l,i,_)=>bif br (b<((f.length:X):Z)) then(loop (σ:=(Z×dW×dW×aif×bt)) (ρ:=dn) (λ(a,e,c,d,_)=>bif br (a<((f.length:X):Z)) then bB (α:=dn) (bB (α:=(bA×dW×dW×aif×bt)) (bw ((b !=a)==bp) ((ao f b).bind λt=>(ao t a).bind λu=>bw (u==bq) ((ao f a).bind λv=>(ao v b).bind λw=>Y (w,e,c,d,())) (Y (bp,e,c,d,()))) (Y (bq,e,c,d,()))) λ(q,m,j,h,_)=>
 bw q ((cC (h.length+([a]).length)).bind λ_=>Y (m,j,(h++[a]),())) (Y (m,j,h,()))) λ(r,n,p,_)=>Y (.inl (bK.wrap (a+(1:Z)),r,n,p,())) else Y (.inr (e,c,d,()))) ((0:Z),l,i,[],())).bind λ(s,g,k,_)=>(cC ((g.1).length+([k]).length)).bind λ_=>Y (.inl (bK.wrap (b+(1:Z)),s,((g.1++[k]),g.2),())) else Y (.inr (l,i,()))) ((0:Z),([],()),([],()),())).bind λ(_,o,_)=>Y (o,())
def sA:ea->aic:=λ(b,e,_)=>(loop (σ:=eo) (ρ:=ed) (λ(a,_)=>bw (br (a<((b.length:X):Z))) ((ao b a).bind λf=>bw (f==e) (Y (.inr (.inr (bp,())))) (Y (.inl (bK.wrap (a+(1:Z)),())))) (Y (.inr (.inl ())))) ((0:Z),())).bind λc=>match c with
 |.inl _=>(Y (bq,()))
 |.inr d=>Y d
def uJ:dR->aid:=λ(a,_)=>(bif br ((((a.1).length:X):Z)>(200:Z)) then Y ((6:Z),()) else((loop (σ:=eo) (ρ:=ee) (λ(b,_)=>bif br (b<(((a.1).length:X):Z)) then(ao a.1 b).bind λh=>(zw (h,())).bind λ(aJ,_)=>bif !aJ then Y (.inr (.inr ((1:Z),()))) else((loop (σ:=eo) (ρ:=dI) (λ(f,_)=>(ao a.1 b).bind λi=>bif br (f<((i.length:X):Z)) then(bB (α:=bt⊕dv) ((ao a.1 b).bind λj=>(ao j f).bind λe=>bw (br (e<(0:Z))==bq) (bw (br (e>=(((a.1).length:X):Z))==bq) (bw ((e==b)==bq) ((ao a.1 e).bind λk=>(sA (k,b,())).bind λ(g,_)=>bw (!g) (Y (.inr (.inr (.inr (.inr (.inr ((1:Z),()))))))) (Y (.inl ()))) (Y (.inr (.inr (.inr (.inr (.inr ((1:Z),())))))))) (Y (.inr (.inr (.inr (.inr (.inr ((1:Z),())))))))) (Y (.inr (.inr (.inr (.inr (.inr ((1:Z),())))))))) λc=>match c with
 |.inl _=>(Y (.inl (bK.wrap (f+(1:Z)),())))
 |.inr d=>Y d) else Y (.inr (.inl ()))) ((0:Z),())).bind λc=>match c with
 |.inl _=>(Y (.inl (bK.wrap (b+(1:Z)),())))
 |.inr d=>Y d) else Y (.inr (.inl ()))) ((0:Z),())).bind λc=>match c with
 |.inl _=>(Y ((0:Z),()))
 |.inr d=>Y d))
def Ds:ea->aic:=λ(b,e,_)=>(loop (σ:=eo) (ρ:=ed) (λ(a,_)=>bif br (a<((b.length:X):Z)) then(bB (α:=bt⊕dP) ((ao b a).bind λf=>bw (br (f<(0:Z))==bq) ((ao b a).bind λg=>bw (br (g>=e)) (Y (.inr (.inr (.inr (bq,()))))) (Y (.inl ()))) (Y (.inr (.inr (.inr (bq,())))))) λc=>match c with
 |.inl _=>(Y (.inl (bK.wrap (a+(1:Z)),())))
 |.inr d=>Y d) else Y (.inr (.inl ()))) ((0:Z),())).bind λc=>match c with
 |.inl _=>(Y (bp,()))
 |.inr d=>Y d
def Dt:eh->aic:=λ(b,_)=>(loop (σ:=eo) (ρ:=ed) (λ(a,_)=>bw (br (a<((b.length:X):Z))) (((Y (0)).bind λc=>(gu a).bind λd=>(g9 c d b.length).map λ_=>(c,d)).bind λe=>(ao b a).bind λi=>(sA (((b.take e.2).drop e.1),i,())).bind λ(h,_)=>bw h (Y (.inr (.inr (bp,())))) (Y (.inl (bK.wrap (a+(1:Z)),())))) (Y (.inr (.inl ())))) ((0:Z),())).bind λf=>match f with
 |.inl _=>(Y (bq,()))
 |.inr g=>Y g
def zJ:dR->bv dU:=λ(a,_)=>(loop (σ:=dS) (ρ:=dU) (λ(c,g,_)=>bw (br (c<(((a.1).length:X):Z))) ((fV (((a.1).length:X):Z) (((a.1).length:X):Z)).bind λj=>(loop (σ:=(Z×eu×aib×bt)) (ρ:=(eu×aib×bt)) (λ(d,h,b,_)=>(ao a.1 c).bind λm=>bw (br (d<((m.length:X):Z))) ((ao a.1 c).bind λn=>(ao n d).bind λl=>(bj b.length l).bind λe=>(a9 b e λ_=>Y (b.set e bp)).bind λo=>Y (.inl (bK.wrap (d+(1:Z)),h,o,()))) (Y (.inr (h,b,())))) ((0:Z),g,bJ j bq,())).bind λ(f,i,_)=>(cC (f.length+([i]).length)).bind λ_=>Y (.inl (bK.wrap (c+(1:Z)),(f++[i]),()))) (Y (.inr (g,())))) ((0:Z),[],())).bind λ(k,_)=>
 Y (k,())
def zK:eo->bv dU:=λ(a,_)=>(loop (σ:=dS) (ρ:=dU) (λ(c,b,_)=>bw (br (c<a)) ((fV a a).bind λd=>(cC (b.length+([bJ d bq]).length)).bind λ_=>Y (.inl (bK.wrap (c+(1:Z)),(b++[bJ d bq]),()))) (Y (.inr (b,())))) ((0:Z),[],())).bind λ(e,_)=>Y (e,())
def Du:dG->bv dN:=λ(e,a,_)=>(uJ (e,())).bind λ(j,_)=>(bif j !=(0:Z) then Y (([],()),j,()) else(Ds (a,(((e.1).length:X):Z),())).bind λ(aJ,_)=>bif !aJ then Y (([],()),(3:Z),()) else(Dt (a,())).bind λ(r,_)=>bif r then Y (([],()),(90:Z),()) else(zJ (e,())).bind λ(s,_)=>(zK (((a.length:X):Z),())).bind λ(t,_)=>(loop (σ:=dw) (ρ:=dy) (λ(c,l,i,_)=>bif br (c<((a.length:X):Z)) then(loop (σ:=dw) (ρ:=dy) (λ(d,k,b,_)=>bif br (d<((a.length:X):Z)) then(bj b.length c).bind λf=>(ao a c).bind λv=>
 (ao s v).bind λw=>(ao a d).bind λx=>(ao w x).bind λy=>((a9 b f λm=>Y m).bind λn=>bj n.length d).bind λh=>(a9 b f λg=>(a9 g h λ_=>Y (g.set h y)).map λz=>b.set f z).bind λA=>Y (.inl (bK.wrap (d+(1:Z)),k,A,())) else Y (.inr (k,b,()))) ((0:Z),l,i,())).bind λ(u,o,_)=>Y (.inl (bK.wrap (c+(1:Z)),u,o,())) else Y (.inr (l,i,()))) ((0:Z),([],()),t,())).bind λ(_,p,_)=>(zI (p,())).bind λ(q,_)=>Y (q,(0:Z),()))
def Dv:dR->bv dB:=λ(a,_)=>(zJ (a,())).bind λ(c,_)=>(fV (((a.1).length:X):Z) (((a.1).length:X):Z)).bind λb=>Y ((c,(bJ b bq,())),())
def zM:(bv dM×Z×bt)->bv eh:=λ(b,h,_)=>(loop (σ:=eb) (ρ:=eh) (λ(a,d,_)=>b.bind λj=>bw (br (a<(((j.1).length:X):Z))) (bB (α:=eh) (bB (α:=(bA×aif×bt)) (b.bind λk=>(ao k.1 h).bind λl=>(ao l a).bind λm=>bw (m==bp) (b.bind λn=>(ao n.2.1 a).bind λi=>Y ((!i),d,())) (Y (bq,d,()))) λ(g,c,_)=>bw g ((cC (c.length+([a]).length)).bind λ_=>Y ((c++[a]),())) (Y (c,()))) λ(e,_)=>Y (.inl (bK.wrap (a+(1:Z)),e,()))) (Y (.inr (d,())))) ((0:Z),[],())).bind λ(f,_)=>Y (f,())
def zL:(dM×Z×bt)->bv dB:=λ(h,l,_)=>(zM (Y h,l,())).bind λ(e,_)=>(loop (σ:=dz) (ρ:=dB) (λ(c,i,_)=>bif br (c<((e.length:X):Z)) then(loop (σ:=dz) (ρ:=dB) (λ(d,a,_)=>bif br (d<((e.length:X):Z)) then bB (α:=dB) (bw (c !=d) ((ao e c).bind λr=>(bj (a.1).length r).bind λf=>(ao e d).bind λq=>((a9 a.1 f λm=>Y m).bind λn=>bj n.length q).bind λj=>((a9 a.1 f λg=>(a9 g j λ_=>Y (g.set j bp)).map λs=>(a.1).set f s).map λt=>(t,a.2)).bind λu=>Y (u,())) (Y (a,()))) λ(o,_)=>
 Y (.inl (bK.wrap (d+(1:Z)),o,())) else Y (.inr (a,()))) ((0:Z),i,())).bind λ(p,_)=>Y (.inl (bK.wrap (c+(1:Z)),p,())) else Y (.inr (i,()))) ((0:Z),h,())).bind λ(b,_)=>(bj (b.2.1).length l).bind λk=>(((a9 b.2.1 k λ_=>Y ((b.2.1).set k bp)).map λv=>(v,b.2.2)).map λw=>(b.1,w)).bind λx=>Y (x,())
def zN:dR->bv (ew×Z×bt):=λ(b,_)=>(uJ (b,())).bind λ(e,_)=>(bw (e !=(0:Z)) (Y ([],e,())) ((Dv (b,())).bind λ(i,_)=>(loop (σ:=(Z×dM×ew×bt)) (ρ:=dW) (λ(a,f,c,_)=>bw (br (a<(((b.1).length:X):Z))) ((zM (Y f,a,())).bind λ(d,_)=>(cC (([a]).length+d.length)).bind λ_=>(cC (c.length+([([a]++d)]).length)).bind λ_=>(zL (f,a,())).bind λ(g,_)=>Y (.inl (bK.wrap (a+(1:Z)),g,(c++[([a]++d)]),()))) (Y (.inr (c,())))) ((0:Z),i,[],())).bind λ(h,_)=>Y (h,(0:Z),())))
def CL:ej->bv ej:=λ(b,a,_)=>(eJ bE b (32:Z)).bind λc=>(eJ bE a (32:Z)).bind λd=>(eJ bE (bE.wrap (eT bE b (4294967295:Z)*eT bE a (4294967295:Z))) (32:Z)).bind λe=>(eJ bE (bE.wrap (bE.wrap (c*eT bE a (4294967295:Z))+e)) (32:Z)).bind λf=>(eJ bE (bE.wrap (eT bE (bE.wrap (bE.wrap (c*eT bE a (4294967295:Z))+e)) (4294967295:Z)+bE.wrap (eT bE b (4294967295:Z)*d))) (32:Z)).bind λg=>Y (bE.wrap (bE.wrap (bE.wrap (c*d)+f)+g),bE.wrap (b*a),())
def GX:ej->bv ej:=λ(b,c,_)=>(CL (b,c,())).bind λ(a,aJ,_)=>Y (a,aJ,())
def CZ:ea->bv eh:=λ(f,g,_)=>bB (α:=bt) (bw (br (g<(0:Z))) bo (Y ())) λ_=>(GX (bE.wrap ((f.length:X):Z),bE.wrap g,())).bind λ(m,aJ,_)=>bB (α:=bt) (bB (α:=en) (bw (br (m>(0:Z))==bq) (Y (br (aJ>(9223372036854775807:Z)),())) (Y (bp,()))) λ(n,_)=>bw n bo (Y ())) λ_=>(fV (bK.wrap aJ) (bK.wrap aJ)).bind λe=>(loop (σ:=eb) (ρ:=eh) (λ(b,a,_)=>bif br (b<((a.length:X):Z)) then((gu b).bind λk=>(Y (a.length)).bind λh=>(g9 k h a.length).bind λ_=>(nL a.length).map λ_=>(k,h)).bind λc=>((Y (0)).bind λi=>(gu b).bind λj=>(g9 i j a.length).bind λ_=>(nL a.length).map λ_=>(i,j)).bind λd=>Y (.inl (bK.wrap (b+((min ((a.take d.2).drop d.1).length (c.2-c.1):X):Z)),jm a ((a.take d.2).drop d.1) c.1 c.2,())) else
 Y (.inr (a,()))) (((min f.length ((bJ e (0:Z)).length-0):X):Z),jm (bJ e (0:Z)) f 0 (bJ e (0:Z)).length,())).bind λ(l,_)=>Y (l,())
def DD:dx->bv dY:=λ(g,h,_)=>(loop (σ:=eb) (ρ:=dH) (λ(e,b,_)=>bif br (e<((g.length:X):Z)) then(bB (α:=eh⊕dp) ((ao g e).bind λa=>bB (α:=(aif×dO×bt)⊕(eh⊕dp)) (bB (α:=(bA×aif×dO×bt)) (bw ((a.1 !=((b.length:X):Z))==bq) (bw (br (a.2.1<=a.1)==bq) (Y (br (a.2.1>h),b,a,())) (Y (bp,b,a,()))) (Y (bp,b,a,()))) λ(o,m,l,_)=>bw o (Y (.inr (.inr (.inr (.inr ([],bq,())))))) (Y (.inl (m,l,())))) λc=>match c with
 |.inl (i,f,_)=>((CZ ([e],bK.wrap (f.2.1-f.1),())).bind λ(k,_)=>(cC (i.length+k.length)).bind λ_=>Y (.inl ((i++k),())))
 |.inr d=>Y d) λc=>match c with
 |.inl (n,_)=>(Y (.inl (bK.wrap (e+(1:Z)),n,())))
 |.inr d=>Y d) else Y (.inr (.inl (b,())))) ((0:Z),[],())).bind λc=>match c with
 |.inl (j,_)=>(Y (j,(((j.length:X):Z)==h),()))
 |.inr d=>Y d
def DF:(dO×Z×bt)->aic:=λ(a,g,_)=>(bif br ((((a.2.2.1).length:X):Z)<bK.wrap (a.2.1-a.1)) then Y (bq,()) else((loop (σ:=eo) (ρ:=ed) (λ(b,_)=>bif br (b<(((a.2.2.1).length:X):Z)) then(bB (α:=bt⊕dP) ((ao a.2.2.1 b).bind λc=>bB (α:=en) (bw (br (b<bK.wrap (a.2.1-a.1))==bp) (Y ((c !=bK.wrap (a.1+b)),())) (Y (bq,()))) λ(f,_)=>bw f (bw f (Y (.inr (.inr (.inr (bq,()))))) (Y (.inl ()))) (bw (br (b>=bK.wrap (a.2.1-a.1))==bp) (bw (br (c<a.2.1)==bq) (bw (br (c>=g)==bq) ((ao a.2.2.1 (bK.wrap (b-(1:Z)))).bind λh=>bw (br (c<=h)) (Y (.inr (.inr (.inr (bq,()))))) (Y (.inl ()))) (Y (.inr (.inr (.inr (bq,())))))) (Y (.inr (.inr (.inr (bq,())))))) (Y (.inl ())))) λd=>match d with
 |.inl _=>(Y (.inl (bK.wrap (b+(1:Z)),())))
 |.inr e=>Y e) else Y (.inr (.inl ()))) ((0:Z),())).bind λd=>match d with
 |.inl _=>(Y (bp,()))
 |.inr e=>Y e))
def DE:(bm dO×aif×dO×bt)->aic:=λ(f,g,a,_)=>((gu (bK.wrap (a.2.1-a.1))).bind λd=>(Y ((a.2.2.1).length)).bind λe=>(g9 d e (a.2.2.1).length).map λ_=>(d,e)).bind λb=>(bif (((((a.2.2.1).take b.2).drop b.1).length:X):Z)==(0:Z) then Y ((a.2.2.2.1==(-1:Z)),()) else(ao (((a.2.2.1).take b.2).drop b.1) (0:Z)).bind λm=>(ao g m).bind λn=>bif a.2.2.2.1 !=n then Y (bq,()) else((loop (σ:=eo) (ρ:=ed) (λ(c,_)=>bw (br (c<(((((a.2.2.1).take b.2).drop b.1).length:X):Z))) ((ao (((a.2.2.1).take b.2).drop b.1) c).bind λk=>(ao f a.2.2.2.1).bind λl=>(uA (l.2.2.1,k,())).bind λ(_,j,_)=>bw (!j) (Y (.inr (.inr (bq,())))) (Y (.inl (bK.wrap (c+(1:Z)),())))) (Y (.inr (.inl ())))) ((0:Z),())).bind λh=>match h with
 |.inl _=>(Y (bp,()))
 |.inr i=>Y i))
def Ha:(dO×ah9×bt)->aic:=λ(a,b,_)=>b.bind λc=>(DF (a,c,())).bind λ(aJ,_)=>Y ((!aJ),())
def G1:dm->aid:=λ(b,c,_)=>(loop (σ:=eo) (ρ:=ee) (λ(a,_)=>bw (br (a<((b.length:X):Z))) ((ao b a).bind λg=>(Ha (g,c.1,())).bind λ(f,_)=>bw f (Y (.inr (.inr (a,())))) (Y (.inl (bK.wrap (a+(1:Z)),())))) (Y (.inr (.inl ())))) ((0:Z),())).bind λd=>match d with
 |.inl _=>(Y ((-1:Z),()))
 |.inr e=>Y e
def CT:dm->aic:=λ(c,a,_)=>(G1 (c,(a.1,()),())).bind λ(b,_)=>Y (br (b>=(0:Z)),())
def Hb:(dO×bv dD×es×bt)->aic:=λ(a,b,c,_)=>b.bind λe=>c.bind λf=>(DE (e,f,a,())).bind λ(d,_)=>Y ((!d),())
def G2:di->aid:=λ(c,b,_)=>(loop (σ:=eo) (ρ:=ee) (λ(a,_)=>bw (br (a<((c.length:X):Z))) ((ao c a).bind λg=>(Hb (g,b.1,b.2.1,())).bind λ(f,_)=>bw f (Y (.inr (.inr (a,())))) (Y (.inl (bK.wrap (a+(1:Z)),())))) (Y (.inr (.inl ())))) ((0:Z),())).bind λd=>match d with
 |.inl _=>(Y ((-1:Z),()))
 |.inr e=>Y e
def CU:di->aic:=λ(c,a,_)=>(G2 (c,(a.1,a.2.1,()),())).bind λ(b,_)=>Y (br (b>=(0:Z)),())
def uN:dk->aid:=λ(c,d,_)=>(y7 (c,())).bind λ(i,_)=>(bif i !=(0:Z) then Y (i,()) else((DD (d,(((c.1).length:X):Z),())).bind λ(aJ,p,_)=>bB (α:=eh⊕eo) (bw ((!p)==bq) ((CT (d,(Y (((c.1).length:X):Z),()),())).bind λ(q,_)=>bw q (Y (.inr ((211:Z),()))) (Y (.inl (aJ,())))) (Y (.inr ((211:Z),())))) λa=>match a with
 |.inl (h,_)=>((CU (d,(Y d,Y h,()),())).bind λ(r,_)=>bif r then Y ((211:Z),()) else((loop (σ:=eb) (ρ:=ee) (λ(e,l,_)=>bif br (e<(((c.1).length:X):Z)) then((ao c.1 e).bind λj=>(loop (σ:=eb) (ρ:=dq) (λ(g,f,_)=>bif br (g<((j.length:X):Z)) then(bB (α:=eh⊕(eb⊕dq)) ((ao j g).bind λk=>bw (br (k>e)) (Y (.inl (f,()))) ((ao f k).bind λs=>(ao d s).bind λt=>(uA (t.2.2.1,e,())).bind λ(_,o,_)=>bw (!o) (Y (.inr (.inr (.inr (.inr (.inr ((211:Z),()))))))) (Y (.inl (f,()))))) λa=>match a with
 |.inl (m,_)=>(Y (.inl (bK.wrap (g+(1:Z)),m,())))
 |.inr b=>Y b) else Y (.inr (.inl (f,())))) ((0:Z),l,())).bind λa=>match a with
 |.inl (n,_)=>(Y (.inl (bK.wrap (e+(1:Z)),n,())))
 |.inr b=>Y b) else Y (.inr (.inl ()))) ((0:Z),h,())).bind λa=>match a with
 |.inl _=>(Y ((0:Z),()))
 |.inr b=>Y b))
 |.inr b=>Y b))
def zO:dx->aid:=λ(b,e,_)=>(loop (σ:=eo) (ρ:=ee) (λ(a,_)=>bif br (a<((b.length:X):Z)) then(bB (α:=bt⊕dQ) (bB (α:=en) ((ao b a).bind λg=>bw (br (g.1<=e)==bp) ((ao b a).bind λh=>Y (br (e<h.2.1),())) (Y (bq,()))) λ(f,_)=>bw f (Y (.inr (.inr (.inr (a,()))))) (Y (.inl ()))) λc=>match c with
 |.inl _=>(Y (.inl (bK.wrap (a+(1:Z)),())))
 |.inr d=>Y d) else Y (.inr (.inl ()))) ((0:Z),())).bind λc=>match c with
 |.inl _=>(Y ((-1:Z),()))
 |.inr d=>Y d
def w6:dk->aid:=λ(f,c,_)=>(uJ (f,())).bind λ(o,_)=>(bif o !=(0:Z) then Y (o,()) else((loop (σ:=ej) (ρ:=dV) (λ(k,h,_)=>bif br (h<((c.length:X):Z)) then(bB (α:=eo⊕dE) (bB (α:=bt⊕(eo⊕dE)) ((ao c h).bind λJ=>bw ((J.1 !=k)==bq) ((ao c h).bind λK=>bw (br (K.2.1<=k)==bq) ((ao c h).bind λL=>bw (br (L.2.1>(((f.1).length:X):Z))) (Y (.inr (.inr (.inr (.inr ((211:Z),())))))) (Y (.inl ()))) (Y (.inr (.inr (.inr (.inr ((211:Z),()))))))) (Y (.inr (.inr (.inr (.inr ((211:Z),()))))))) λa=>match a with
 |.inl _=>((ao c h).bind λM=>Y (.inl (M.2.1,())))
 |.inr b=>Y b) λa=>match a with
 |.inl (q,_)=>(Y (.inl (q,bK.wrap (h+(1:Z)),())))
 |.inr b=>Y b) else Y (.inr (.inl (k,())))) ((0:Z),(0:Z),())).bind λa=>match a with
 |.inl (r,_)=>(bif r !=(((f.1).length:X):Z) then Y ((211:Z),()) else((loop (σ:=eo) (ρ:=ee) (λ(e,_)=>bif br (e<((c.length:X):Z)) then(bB (α:=bt⊕dQ) ((ao c e).bind λd=>(ao c e).bind λi=>(ao c e).bind λj=>bB (α:=bt⊕dI) ((zw (d.2.2.1,())).bind λ(s,_)=>bif (!s)==bq then bif br ((((d.2.2.1).length:X):Z)<bK.wrap (i.2.1-j.1))==bq then(ao d.2.2.1 (0:Z)).bind λx=>(ao c e).bind λy=>bif (x !=y.1)==bq then(ao d.2.2.1 (bK.wrap (bK.wrap (i.2.1-j.1)-(1:Z)))).bind λz=>(ao c e).bind λA=>bif (z !=bK.wrap (A.2.1-(1:Z)))==bq then(ao d.2.2.1 (bK.wrap ((((d.2.2.1).length:X):Z)-(1:Z)))).bind λB=>bif br (B>=(((f.1).length:X):Z)) then Y (.inr (.inr (.inr (.inr ((211:Z),()))))) else
 Y (.inl ()) else Y (.inr (.inr (.inr (.inr ((211:Z),()))))) else Y (.inr (.inr (.inr (.inr ((211:Z),()))))) else Y (.inr (.inr (.inr (.inr ((211:Z),()))))) else Y (.inr (.inr (.inr (.inr ((211:Z),())))))) λa=>match a with
 |.inl _=>(bB (α:=eo) (bw (br ((((d.2.2.1).length:X):Z)>bK.wrap (i.2.1-j.1))) ((ao d.2.2.1 (bK.wrap (i.2.1-j.1))).bind λC=>(zO (c,C,())).bind λ(t,_)=>Y (t,())) (Y ((-1:Z),()))) λ(n,_)=>(ao c e).bind λD=>bif D.2.2.2.1 !=n then Y (.inr (.inr (.inr ((211:Z),())))) else((loop (σ:=eo) (ρ:=dA) (λ(l,_)=>bw (br (l<(((d.2.2.1).length:X):Z))) ((ao c n).bind λE=>(ao d.2.2.1 l).bind λF=>(sA (E.2.2.1,F,())).bind λ(u,_)=>bw (!u) (Y (.inr (.inr (.inr (.inr (.inr ((211:Z),()))))))) (Y (.inl (bK.wrap (l+(1:Z)),())))) (Y (.inr (.inl ())))) (bK.wrap (i.2.1-j.1),())).bind λa=>match a with
 |.inl _=>(Y (.inl ()))
 |.inr b=>Y b))
 |.inr b=>Y b) λa=>match a with
 |.inl _=>(Y (.inl (bK.wrap (e+(1:Z)),())))
 |.inr b=>Y b) else Y (.inr (.inl ()))) ((0:Z),())).bind λa=>match a with
 |.inl _=>((loop (σ:=eo) (ρ:=ee) (λ(g,_)=>bif br (g<(((f.1).length:X):Z)) then((loop (σ:=eo) (ρ:=dI) (λ(m,_)=>(ao f.1 g).bind λG=>bif br (m<((G.length:X):Z)) then(bB (α:=bt⊕dv) ((ao f.1 g).bind λH=>(ao H m).bind λp=>bw (br (p>g)==bp) ((zO (c,g,())).bind λ(v,_)=>(ao c v).bind λI=>(sA (I.2.2.1,p,())).bind λ(w,_)=>bw (!w) (Y (.inr (.inr (.inr (.inr (.inr ((211:Z),()))))))) (Y (.inl ()))) (Y (.inl ()))) λa=>match a with
 |.inl _=>(Y (.inl (bK.wrap (m+(1:Z)),())))
 |.inr b=>Y b) else Y (.inr (.inl ()))) ((0:Z),())).bind λa=>match a with
 |.inl _=>(Y (.inl (bK.wrap (g+(1:Z)),())))
 |.inr b=>Y b) else Y (.inr (.inl ()))) ((0:Z),())).bind λa=>match a with
 |.inl _=>(Y ((0:Z),()))
 |.inr b=>Y b)
 |.inr b=>Y b))
 |.inr b=>Y b))
def C6:ea->aic:=λ(b,c,_)=>(bif ((b.length:X):Z)!=c then Y (bq,()) else((fV c c).bind λk=>(loop (σ:=dZ) (ρ:=ed) (λ(a,g,_)=>bif br (a<c) then(bB (α:=ef⊕dC) (bB (α:=ef⊕(ef⊕dC)) ((ao b a).bind λo=>bw (br (o<(0:Z))==bq) ((ao b a).bind λp=>bw (br (p>=c)==bq) ((ao b a).bind λq=>(bj g.length q).bind λj=>(a9 g j λi=>Y i).bind λm=>bw m (Y (.inr (.inr (.inr (.inr (bq,())))))) (Y (.inl (g,())))) (Y (.inr (.inr (.inr (.inr (bq,()))))))) (Y (.inr (.inr (.inr (.inr (bq,()))))))) λd=>match d with
 |.inl (f,_)=>((ao b a).bind λn=>(bj f.length n).bind λh=>(a9 f h λ_=>Y (f.set h bp)).bind λr=>Y (.inl (r,())))
 |.inr e=>Y e) λd=>match d with
 |.inl (l,_)=>(Y (.inl (bK.wrap (a+(1:Z)),l,())))
 |.inr e=>Y e) else Y (.inr (.inl ()))) ((0:Z),bJ k bq,())).bind λd=>match d with
 |.inl _=>(Y (bp,()))
 |.inr e=>Y e))
def q6:dG->bv dN:=λ(a,b,_)=>(uJ (a,())).bind λ(c,_)=>(bw (c !=(0:Z)) (Y (([],()),c,())) (bw (((b.length:X):Z)!=(((a.1).length:X):Z)) (Y (([],()),(2:Z),())) ((C6 (b,(((a.1).length:X):Z),())).bind λ(aJ,_)=>bw (!aJ) (Y (([],()),(90:Z),())) ((Du (a,b,())).bind λ(d,e,_)=>Y (d,e,())))))
section
open Go
def Bh (c:aif->es) (a:aif):bv bA:=bif b2 a.length 1000000 then(c a).bind λb=>bif b2 b.length 1000000 then Y (br ((ai6 b).length<a.length)) else bo else bo
end
def Cj:dN->aic:=λ(b,a,_)=>(bw (br (a>=(0:Z))==bp) (Y (br (a<(((b.1).length:X):Z)),())) (Y (bq,())))
def wW:eo->aid:=λ(a,_)=>bB (α:=ej) (bw (br (a>=(65536:Z))) ((eJ cc a (16:Z)).bind λg=>Y (g,(16:Z),())) (Y (a,(0:Z),()))) λ(b,c,_)=>bB (α:=ej) (bw (br (b>=(256:Z))) ((eJ cc b (8:Z)).bind λh=>Y (h,bK.wrap (c+(8:Z)),())) (Y (b,c,()))) λ(f,e,_)=>(qn En (alU.wrap f)).bind λd=>Y (bK.wrap (e+bK.wrap d),())
def Mc:eo->aid:=λ(a,_)=>bB (α:=ej) (bw (br (a>=(4294967296:Z))) ((eJ bE a (32:Z)).bind λi=>Y (i,(32:Z),())) (Y (a,(0:Z),()))) λ(b,d,_)=>bB (α:=ej) (bw (br (b>=(65536:Z))) ((eJ bE b (16:Z)).bind λj=>Y (j,bK.wrap (d+(16:Z)),())) (Y (b,d,()))) λ(c,e,_)=>bB (α:=ej) (bw (br (c>=(256:Z))) ((eJ bE c (8:Z)).bind λk=>Y (k,bK.wrap (e+(8:Z)),())) (Y (c,e,()))) λ(h,g,_)=>(qn En (alU.wrap h)).bind λf=>Y (bK.wrap (g+bK.wrap f),())
def CK:eo->aid:=λ(b,_)=>(Mc (b,())).bind λ(a,_)=>Y (a,())
def C1:(aif×Z×Z×bt)->bv eh:=λ(k,f,j,_)=>(loop (σ:=eb) (ρ:=eh) (λ(d,g,_)=>bif br (d<j) then(loop (σ:=eb) (ρ:=eh) (λ(a,c,_)=>bB (α:=eh⊕dJ) (bw (br (a>f)==bp) ((bj c.length a).bind λu=>(a9 c u λq=>Y q).bind λy=>(bj c.length (bK.wrap (a-(1:Z)))).bind λr=>(a9 c r λn=>Y n).bind λz=>(ur (y,z,())).bind λ(x,_)=>bw x (Y (.inl (c,()))) (Y (.inr (.inr (c,()))))) (Y (.inr (.inr (c,()))))) λv=>match v with
 |.inl (b,_)=>((bj b.length (bK.wrap (a-(1:Z)))).bind λs=>(a9 b s λo=>Y o).bind λA=>(bj b.length a).bind λt=>(a9 b t λp=>Y p).bind λB=>(bj b.length a).bind λh=>(a9 b h λ_=>Y (b.set h A)).bind λe=>(bj e.length (bK.wrap (a-(1:Z)))).bind λi=>(a9 e i λ_=>Y (e.set i B)).bind λC=>Y (.inl (bK.wrap (a-(1:Z)),C,())))
 |.inr w=>Y w) (d,g,())).bind λ(l,_)=>Y (.inl (bK.wrap (d+(1:Z)),l,())) else Y (.inr (g,()))) (bK.wrap (f+(1:Z)),k,())).bind λ(m,_)=>Y (m,())
def C4:(aif×Z×Z×Z×bt)->bv eh:=λ(e,c,d,g,_)=>(loop (σ:=(Z×Z×Z×bA×bA×aif×bt)) (ρ:=eh) (λ(a,b,_,_,_,f,_)=>bw (br (bK.wrap (b-a)<=(12:Z))) ((C1 (f,a,b,())).bind λ(h,_)=>Y (.inr (h,()))) bo) (c,d,g,bp,bp,e,())).bind Y
def zq:eh->bv eh:=λ(a,_)=>(CK (bE.wrap ((a.length:X):Z),())).bind λ(c,_)=>(C4 (a,(0:Z),((a.length:X):Z),c,())).bind λ(b,_)=>Y (b,())
def Ci:aif×bt->aic:=λa=>(Bh (λc=>(zq (c,())).map λd=>d.1) a.1).map λb=>(b,())
def GQ:(Z×bv dW×bt)->aic:=λ(b,a,_)=>a.bind λc=>(Cj (c,b,())).bind λ(aJ,_)=>Y ((!aJ),())
def G3:du->aid:=λ(b,c,_)=>(loop (σ:=eo) (ρ:=ee) (λ(a,_)=>bw (br (a<((b.length:X):Z))) ((ao b a).bind λg=>(GQ (g,c.1,())).bind λ(f,_)=>bw f (Y (.inr (.inr (a,())))) (Y (.inl (bK.wrap (a+(1:Z)),())))) (Y (.inr (.inl ())))) ((0:Z),())).bind λd=>match d with
 |.inl _=>(Y ((-1:Z),()))
 |.inr e=>Y e
def CW:du->aic:=λ(c,a,_)=>(G3 (c,(a.1,()),())).bind λ(b,_)=>Y (br (b>=(0:Z)),())
def Ce:dG->aid:=λ(a,b,_)=>(y7 (a,())).bind λ(c,_)=>(bw (c !=(0:Z)) (Y (c,())) (bw (((b.length:X):Z)!=(((a.1).length:X):Z)) (Y ((2:Z),())) ((CW (b,(Y a,()),())).bind λ(aJ,_)=>bw (aJ==bq) ((Ci (b,())).bind λ(d,_)=>bw d (Y ((90:Z),())) (Y ((0:Z),()))) (Y ((90:Z),())))))
def y9:eo->bv dU:=λ(a,_)=>(fV a a).bind λe=>(loop (σ:=dS) (ρ:=dU) (λ(c,b,_)=>bw (br (c<((((bJ e []):eu).length:X):Z))) ((fV a a).bind λf=>(bj b.length c).bind λd=>(a9 b d λ_=>Y (b.set d (bJ f bq))).bind λh=>Y (.inl (bK.wrap (c+(1:Z)),h,()))) (Y (.inr (b,())))) ((0:Z),bJ e [],())).bind λ(g,_)=>Y (g,())
def zc:(eu×Z×Z×bt)->bv dU:=λ(a,d,e,_)=>(bw (d !=e) ((bj a.length d).bind λb=>(bj a.length e).bind λc=>((a9 a b λm=>Y m).bind λn=>bj n.length e).bind λi=>(a9 a b λg=>(a9 g i λ_=>Y (g.set i bp)).map λo=>a.set b o).bind λf=>((a9 f c λk=>Y k).bind λl=>bj l.length d).bind λj=>(a9 f c λh=>(a9 h j λ_=>Y (h.set j bp)).map λp=>f.set c p).bind λq=>Y (q,())) (Y (a,())))
def Cf:(eu×Z×bt)->bv eh:=λ(f,g,_)=>(ao f g).bind λc=>(loop (σ:=eb) (ρ:=eh) (λ(a,b,_)=>bw (br (a<((c.length:X):Z))) (bB (α:=eh) ((ao c a).bind λh=>bw h ((cC (b.length+([a]).length)).bind λ_=>Y ((b++[a]),())) (Y (b,()))) λ(d,_)=>Y (.inl (bK.wrap (a+(1:Z)),d,()))) (Y (.inr (b,())))) ((0:Z),[],())).bind λ(e,_)=>Y (e,())
def zb:dU->bv dR:=λ(b,_)=>(fV ((b.length:X):Z) ((b.length:X):Z)).bind λg=>(loop (σ:=dr) (ρ:=dt) (λ(c,e,a,_)=>bw (br (c<((b.length:X):Z))) ((Cf (b,c,())).bind λ(h,_)=>(bj (a.1).length c).bind λd=>((a9 a.1 d λ_=>Y ((a.1).set d h)).map λi=>(i,a.2)).bind λj=>Y (.inl (bK.wrap (c+(1:Z)),e,j,()))) (Y (.inr (e,a,())))) ((0:Z),([],()),(bJ g [],()),())).bind λ(_,f,_)=>Y (f,())
def Ch:dG->bv dR:=λ(k,a,_)=>(y9 (((a.length:X):Z),())).bind λ(o,_)=>(loop (σ:=dw) (ρ:=dy) (λ(b,i,j,_)=>bif br (b<((a.length:X):Z)) then(ao a b).bind λv=>((Y (0)).bind λg=>(gu b).bind λh=>(g9 g h a.length).map λ_=>(g,h)).bind λc=>(loop (σ:=dw) (ρ:=dy) (λ(d,e,f,_)=>bif br (d<((((a.take c.2).drop c.1).length:X):Z)) then bB (α:=dy) ((ao ((a.take c.2).drop c.1) d).bind λu=>(wP (k,v,u,())).bind λ(m,_)=>bw m ((zc (f,b,d,())).bind λ(l,_)=>Y (e,l,())) (Y (e,f,()))) λ(p,q,_)=>
 Y (.inl (bK.wrap (d+(1:Z)),p,q,())) else Y (.inr (e,f,()))) ((0:Z),i,j,())).bind λ(r,s,_)=>Y (.inl (bK.wrap (b+(1:Z)),r,s,())) else Y (.inr (i,j,()))) ((0:Z),([],()),o,())).bind λ(_,t,_)=>(zb (t,())).bind λ(n,_)=>Y (n,())
def za:dG->bv dN:=λ(a,b,_)=>(Ce (a,b,())).bind λ(c,_)=>(bw (c !=(0:Z)) (Y (([],()),c,())) ((Ch (a,b,())).bind λ(aJ,_)=>Y (aJ,(0:Z),())))
def uq:ej->aid:=λ(a,b,_)=>(sr (a,())).bind λ(c,_)=>(sr (b,())).bind λ(aJ,_)=>(bw c (bw aJ (Y ((0:Z),())) (Y ((-1:Z),()))) (bw aJ (Y ((1:Z),())) (bw (br (a<b)) (Y ((-1:Z),())) (bw (br (a>b)) (Y ((1:Z),())) (Y ((0:Z),()))))))
def B3:eh->aid:=λ(b,_)=>(loop (σ:=eo) (ρ:=ee) (λ(a,_)=>bw (br (a<((b.length:X):Z))) ((ao b a).bind λc=>bw (c !=(0:Z)) (Y (.inr (.inr (c,())))) (Y (.inl (bK.wrap (a+(1:Z)),())))) (Y (.inr (.inl ())))) ((0:Z),())).bind λd=>match d with
 |.inl _=>(Y ((0:Z),()))
 |.inr e=>Y e
abbrev be:Type:=aif
abbrev hm:Type:=(be×bt)
abbrev eL:Type:=(bA×hm)
abbrev cJ:Type:=eo
abbrev fk:Type:=(bA×(eL×cJ))
abbrev SP:Type:=(be×(be×hm))
abbrev BJ:Type:=(bm fk)
abbrev kP:Type:=(bm (Z×(Z×cJ)))
abbrev c5:Type:=(Z×(Z×SP))
abbrev he:Type:=en
abbrev qR:Type:=(Z×((bm be×bt)×(bm (bv (bm (Z×fk)×X))×bt)))
abbrev iu:Type:=(bm (Z×(Z×(be×cJ))))
abbrev gV:Type:=(fk×bt)
abbrev gJ:Type:=(eL×bt)
abbrev lr:Type:=(fk×fk×bt)
abbrev iG:Type:=(Z×be×bt)
abbrev g6:Type:=aib
abbrev oQ:Type:=(bt⊕he)
abbrev jB:Type:=(kP×bt)
abbrev SQ:Type:=(kP×Z×Z×Z×bt×bt)
abbrev n6:Type:=(Z×kP×bt)
abbrev jQ:Type:=(be×be×bt)
abbrev ls:Type:=(eL×eL×bt)
abbrev np:Type:=(bt⊕cJ)
abbrev nq:Type:=(be×Z×bt)
abbrev nr:Type:=ej
abbrev j4:Type:=(iu×bm g6×bt)
abbrev yH:Type:=(Z×Z×kP×bt)
abbrev wq:Type:=(bA×(eL×(Z×he)))
abbrev pJ:Type:=(Z×Z×be×bt)
abbrev pK:Type:=(eL×Z×bt)
abbrev mP:Type:=(c5×bt)
def mi:hm->bv hm:=λ(c,_)=>(loop (σ:=cJ) (ρ:=cJ) (λ(a,_)=>bB (α:=bt⊕(cJ⊕cJ)) (bw (br (a>0)==bp) ((ao c (ax (a-1))).bind λj=>bw (j==0) (Y (.inl ())) (Y (.inr (.inr (a,()))))) (Y (.inr (.inr (a,()))))) λh=>match h with
 |.inl _=>(Y (.inl (ax (a-1),())))
 |.inr i=>Y i) (al c,())).bind λ(f,_)=>(loop (σ:=iG) (ρ:=hm) (λ(b,d,_)=>bw (br (b<f)) ((ao c b).bind λe=>(cC (d.length+([e]).length)).bind λ_=>Y (.inl (aP b,(d++[e]),()))) (Y (.inr (d,())))) (0,[],())).bind λ(g,_)=>Y (g,())
def lX:(bA×be×bt)->bv gJ:=λ(c,b,_)=>(mi (b,())).bind λ(a,_)=>(bw (c==bp) (Y ((br (al a>0),(a,())),())) (Y ((bq,(a,())),())))
def sB:cJ->bv gJ:=λ(a,_)=>bB (α:=(Z×eL×bt)) (bw (br (a<0)) (Y (aM (aM (ax (0-aP a))+1),(bq,([],())),())) (Y (aM a,(bq,([],())),()))) λ(b,_,_)=>(eJ bE b 32).bind λd=>(lX (br (a<0),[dd b,dd d],())).bind λ(c,_)=>Y (c,())
def pY:gJ->bv gJ:=λ(a,_)=>(lX (a.1,a.2.1,())).bind λ(b,_)=>Y (b,())
def sD:bt->bv gV:=λ_=>Y ((bp,((bq,([],())),((0:Z),()))),())
def wX:cJ->bv cJ:=λ(a,_)=>(bw (a==0) (Y (32,())) ((eJ cc (dd (eT cc a (dd (0-a))*125613361)) 27).bind λb=>(ao pQ b).bind λc=>Y (ax c,())))
def q2:gJ->bv cJ:=λ(c,_)=>(mi (c.2.1,())).bind λ(b,_)=>(loop (σ:=cJ) (ρ:=np) (λ(a,_)=>bw (br (a<al b)) ((ao b a).bind λg=>bw (g !=0) ((ao b a).bind λh=>(wX (h,())).bind λ(f,_)=>Y (.inr (.inr (ax (ax (32*a)+f),())))) (Y (.inl (aP a,())))) (Y (.inr (.inl ())))) (0,())).bind λd=>match d with
 |.inl _=>(Y (0,()))
 |.inr e=>Y e
def q1:gJ->bv gJ:=λ(a,_)=>(lX (bq,a.2.1,())).bind λ(b,_)=>Y (b,())
def w2:nq->bv hm:=λ(f,g,_)=>(kc bK g 32).bind λi=>(fV i i).bind λj=>(loop (σ:=pJ) (ρ:=iG) (λ(a,b,c,_)=>bw (br (b<al f)) ((ao f b).bind λl=>(iM g 32).bind λm=>(h0 bE (aM l) m).bind λd=>(cC (c.length+([dd (gk bE a d)]).length)).bind λ_=>(eJ bE (gk bE a d) 32).bind λk=>Y (.inl (k,aP b,(c++[dd (gk bE a d)]),()))) (Y (.inr (a,c,())))) (0,0,bJ j (0:Z),())).bind λ(e,h,_)=>(cC (h.length+([dd e]).length)).bind λ_=>Y ((h++[dd e]),())
def w3:nq->bv (be×bA×bt):=λ(b,d,_)=>(loop (σ:=ei) (ρ:=he) (λ(e,c,_)=>bB (α:=bt⊕(ei⊕he)) ((kc bK d 32).bind λw=>bw (br (c<w)==bp) (bw (br (c<al b)) (Y (.inl ())) (Y (.inr (.inr (e,()))))) (Y (.inr (.inr (e,()))))) λt=>match t with
 |.inl _=>(bB (α:=he) (bw (e==bq) ((ao b c).bind λx=>Y ((x !=0),())) (Y (bp,()))) λ(m,_)=>Y (.inl (m,aP c,())))
 |.inr u=>Y u) (bq,0,())).bind λ(n,_)=>(iM d 32).bind λj=>(kc bK d 32).bind λy=>(loop (σ:=(bA×Z×be×bt)) (ρ:=(bA×be×bt)) (λ(f,a,g,_)=>bif br (a<al b) then bB (α:=(bA×be×bt)) ((ao b a).bind λk=>bB (α:=iG) (bw (br (aP a<al b)) ((ao b (aP a)).bind λz=>(h0 bE (aM z) 32).bind λA=>Y (gk bE (aM k) A,g,())) (Y (aM k,g,()))) λ(v,h,_)=>bB (α:=(bA×be×bt)) ((kc bK d 32).bind λB=>bw ((a==B)==bp) ((ao b a).bind λC=>(h0 cc 1 j).bind λD=>bw (eT cc C (dd (D-1))!=0) (Y (bp,h,())) (Y (f,h,()))) (Y (f,h,()))) λ(o,i,_)=>(eJ bE v j).bind λl=>(cC (i.length+([dd l]).length)).bind λ_=>Y (o,(i++[dd l]),())) λ(p,r,_)=>Y (.inl (p,aP a,r,())) else
 Y (.inr (f,g,()))) (n,y,[],())).bind λ(q,s,_)=>Y (s,q,())
def zz:gJ->bv gJ:=λ(a,_)=>(lX ((!a.1),a.2.1,())).bind λ(b,_)=>Y (b,())
def Dd:jQ->bv hm:=λ(b,c,_)=>(loop (σ:=pJ) (ρ:=iG) (λ(e,a,f,_)=>bw (br (a<(if(al c)>al b then al c else al b))) (bB (α:=iG) (bB (α:=iG) (bw (br (a<al b)) ((ao b a).bind λo=>Y (aM (e+aM o),f,())) (Y (e,f,()))) λ(h,k,_)=>bB (α:=iG) (bw (br (a<al c)) ((ao c a).bind λp=>Y (aM (h+aM p),k,())) (Y (h,k,()))) λ(d,i,_)=>(cC (i.length+([dd d]).length)).bind λ_=>(eJ bE d 32).bind λn=>Y (n,(i++[dd d]),())) λ(l,m,_)=>Y (.inl (l,aP a,m,()))) (Y (.inr (e,f,())))) (0,0,[],())).bind λ(g,j,_)=>(cC (j.length+([dd g]).length)).bind λ_=>Y ((j++[dd g]),())
def zA:jQ->bv cJ:=λ(b,c,_)=>(bif al b !=al c then bw (br (al b<al c)) (Y ((-1:Z),())) (Y (1,())) else((loop (σ:=cJ) (ρ:=np) (λ(a,_)=>bw (br (a>=0)) ((ao b a).bind λf=>(ao c a).bind λg=>bw (f !=g) ((ao b a).bind λh=>(ao c a).bind λi=>bw (br (h<i)) (Y (.inr (.inr ((-1:Z),())))) (Y (.inr (.inr (1,()))))) (Y (.inl (ax (a-1),())))) (Y (.inr (.inl ())))) (ax (al b-1),())).bind λd=>match d with
 |.inl _=>(Y (0,()))
 |.inr e=>Y e))
def zB:jQ->bv hm:=λ(d,e,_)=>(loop (σ:=pJ) (ρ:=hm) (λ(f,a,b,_)=>bw (br (a<al d)) (bB (α:=iG) ((ao d a).bind λh=>bB (α:=iG) (bw (br (a<al e)) ((ao e a).bind λm=>Y (aM (aM (aM h-f)-aM m),b,())) (Y (aM (aM h-f),b,()))) λ(c,g,_)=>(cC (g.length+([dd c]).length)).bind λ_=>(eJ bE c 63).bind λl=>Y (l,(g++[dd c]),())) λ(i,j,_)=>Y (.inl (i,aP a,j,()))) (Y (.inr (b,())))) (0,0,[],())).bind λ(k,_)=>Y (k,())
def pX:ls->bv gJ:=λ(a,c,_)=>(mi (a.2.1,())).bind λ(b,_)=>(mi (c.2.1,())).bind λ(aJ,_)=>(bw (a.1==c.1) ((Dd (b,aJ,())).bind λ(f,_)=>(lX (a.1,f,())).bind λ(g,_)=>Y (g,())) ((zA (b,aJ,())).bind λ(h,_)=>bw (br (h>=0)) ((zB (b,aJ,())).bind λ(i,_)=>(lX (a.1,i,())).bind λ(j,_)=>Y (j,())) ((zB (aJ,b,())).bind λ(d,_)=>(lX (c.1,d,())).bind λ(e,_)=>Y (e,()))))
def w1:ls->bv gJ:=λ(a,b,_)=>(zz (b,())).bind λ(c,_)=>(pX (a,c,())).bind λ(aJ,_)=>Y (aJ,())
def mS:pK->bv gJ:=λ(f,b,_)=>(pY (f,())).bind λ(a,_)=>(bw (br (b>=0)) ((w2 (a.2.1,b,())).bind λ(aJ,_)=>(lX (a.1,aJ,())).bind λ(j,_)=>Y (j,())) ((w3 (a.2.1,ax (0-b),())).bind λ(k,l,_)=>(lX (a.1,k,())).bind λ(d,_)=>bB (α:=ls) (bB (α:=(bA×eL×eL×bt)) (bw (a.1==bp) (Y (l,(bq,([],())),d,())) (Y (bq,(bq,([],())),d,()))) λ(m,e,c,_)=>bw m ((sB (1,())).bind λ(h,_)=>(w1 (c,h,())).bind λ(i,_)=>Y (e,i,())) (Y (e,c,()))) λ(_,g,_)=>Y (g,())))
def w4:pK->bv gJ:=λ(d,f,_)=>(loop (σ:=(Z×eL×eL×bt)) (ρ:=(Z×eL×eL×bt)) (λ(a,b,c,_)=>bw (br (a>1048576)) ((mS (b,(-1048576:Z),())).bind λ(i,_)=>Y (.inl (ax (a-1048576),i,c,()))) (Y (.inr (a,b,c,())))) (f,d,(bq,([],())),())).bind λ(g,e,_,_)=>(mS (e,ax (0-g),())).bind λ(h,_)=>Y (h,())
def uG:gJ->bv cJ:=λ(b,_)=>(mi (b.2.1,())).bind λ(a,_)=>(bw (al a==0) (Y (0,())) ((ao a (ax (al a-1))).bind λc=>(wW (c,())).bind λ(aJ,_)=>Y (ax (ax (32*ax (al a-1))+aJ),())))
def oa:pK->bv gV:=λ(e,a,_)=>(pY (e,())).bind λ(c,_)=>(bif al c.2.1==0 then Y ((bq,((bq,([],())),((0:Z),()))),()) else bif br (a>65536) then(sD ()).bind λ(aJ,_)=>Y (aJ,()) else((q2 (c,())).bind λ(b,_)=>(q1 (c,())).bind λ(k,_)=>(w4 (k,b,())).bind λ(d,_)=>bB (α:=(fk×eL×bt)⊕gV) (bB (α:=(bA×fk×eL×bt)) (bw (br (ax (a+b)<(-65536:Z))==bq) ((uG (d,())).bind λ(l,_)=>Y (br (ax (ax (a+b)+l)>65536),(bq,((bq,([],())),((0:Z),()))),d,())) (Y (bp,(bq,((bq,([],())),((0:Z),()))),d,()))) λ(n,m,f,_)=>bw n ((sD ()).bind λ(j,_)=>Y (.inr (j,()))) (Y (.inl (m,f,())))) λh=>match h with
 |.inl (_,g,_)=>(Y ((bq,((e.1,g.2),(ax (a+b),()))),()))
 |.inr i=>Y i))
def uH:cJ->bv gV:=λ(a,_)=>(sB (a,())).bind λ(b,_)=>(oa (b,0,())).bind λ(c,_)=>Y (c,())
def lY:gV->bv gV:=λ(a,_)=>(bw a.1 ((sD ()).bind λ(b,_)=>Y (b,())) ((oa (a.2.1,a.2.2.1,())).bind λ(c,_)=>Y (c,())))
def lW:gJ->bv cJ:=λ(b,_)=>(pY (b,())).bind λ(a,_)=>(bw (al a.2.1==0) (Y (0,())) (bw a.1 (Y ((-1:Z),())) (Y (1,()))))
def q4:ei->bv cJ:=λ(b,a,_)=>(bw b (Y (gk bE a 9223372036854775808,())) (Y (a,())))
def zE:ei->bv cJ:=λ(a,b,_)=>bB (α:=bt⊕cJ) (bB (α:=he) (bw ((b==3)==bq) (bw ((b==1)==bp) (bw ((!a)==bq) (bw ((b==2)==bp) (Y (a,())) (Y (bq,()))) (Y (bp,()))) (bw ((b==2)==bp) (Y (a,())) (Y (bq,())))) (Y (bp,()))) λ(f,_)=>bw f ((q4 (a,9218868437227405311,())).bind λ(aJ,_)=>Y (.inr (aJ,()))) (Y (.inl ()))) λc=>match c with
 |.inl _=>((q4 (a,9218868437227405312,())).bind λ(e,_)=>Y (e,()))
 |.inr d=>Y d
def zy:pK->bv he:=λ(a,b,_)=>(mi (a.2.1,())).bind λ(c,_)=>(w3 (c,b,())).bind λ(_,d,_)=>Y (d,())
def Dm:(bA×Z×bA×Z×bt)->bv he:=λ(c,b,d,a,_)=>(bw (a==1) (Y (c,())) (bw (a==2) (Y ((!c),())) (bw (a==3) (Y (bq,())) (bw (br (b>0)==bq) (bw ((b==0)==bp) (Y (d,())) (Y (bq,()))) (Y (bp,()))))))
def Dh:(bA×eL×Z×bA×Z×bt)->bv gJ:=λ(q,b,a,h,p,_)=>(w4 (b,a,())).bind λ(l,_)=>(zy (b,a,())).bind λ(D,_)=>bB (α:=ls⊕gJ) (bB (α:=(bA×eL×eL×bt)) (bw ((!D)==bp) (Y ((!h),(bq,([],())),l,())) (Y (bq,(bq,([],())),l,()))) λ(F,G,i,_)=>bw F (Y (.inr (i,()))) (Y (.inl (G,i,())))) λs=>match s with
 |.inl (g,f,_)=>(bB (α:=(Z×eL×eL×bt)) (bw (br (a>0)) ((w4 (b,ax (a-1),())).bind λ(k,_)=>bB (α:=(bA×eL×eL×bt)) ((q2 (k,())).bind λ(v,_)=>bw ((v==0)==bp) ((lW (k,())).bind λ(w,_)=>Y ((w !=0),g,f,())) (Y (bq,g,f,()))) λ(E,e,c,_)=>bw E (bw (h==bq) ((zy (b,ax (a-1),())).bind λ(x,_)=>bw x (Y (1,e,c,())) (Y (0,e,c,()))) (Y (1,e,c,()))) (Y ((-1:Z),e,c,()))) (Y ((-1:Z),g,f,()))) λ(o,m,d,_)=>bB (α:=(bA×eL×eL×bt)) ((lW (d,())).bind λ(y,_)=>bw ((y !=0)==bp) ((q2 (d,())).bind λ(z,_)=>Y ((z==0),m,d,())) (Y (bq,m,d,()))) λ(r,n,j,_)=>bB (α:=ls) ((Dm (q,o,r,p,())).bind λ(A,_)=>
  bw A ((sB (1,())).bind λ(B,_)=>(pX (j,B,())).bind λ(C,_)=>Y (n,C,())) (Y (n,j,()))) λ(_,t,_)=>Y (t,()))
 |.inr u=>Y u
def Db:gJ->bv eg:=λ(f,_)=>(pY (f,())).bind λ(d,_)=>(bw (br (al d.2.1>2)) (Y (0,bq,())) ((loop (σ:=(Z×Z×eL×bt)) (ρ:=(Z×eL×bt)) (λ(e,b,a,_)=>bw (br (b<al a.2.1)) ((ao a.2.1 b).bind λh=>(h0 bE (aM h) (ax (32*b))).bind λi=>Y (.inl (gk bE e i,aP b,a,()))) (Y (.inr (e,a,())))) (0,0,d,())).bind λ(c,g,_)=>bw g.1 (bw (br (c>9223372036854775808)) (Y (0,bq,())) (Y (ax (ax (0-ax (aM (c-1)))-1),bp,()))) (bw (br (c>9223372036854775807)) (Y (0,bq,())) (Y (ax c,bp,())))))
def zF:(bA×eL×Z×bA×Z×bt)->bv cJ:=λ(c,e,a,i,f,_)=>(uG (e,())).bind λ(b,_)=>(bif br (ax (ax (a+b)-1)>=1024) then(zE (c,f,())).bind λ(p,_)=>Y (p,()) else(bB (α:=gJ) (bw (br ((if(-1074:Z)>ax (ax (ax (a+b)-1)-52) then(-1074:Z) else ax (ax (ax (a+b)-1)-52))>=a)) ((Dh (c,e,ax ((if(-1074:Z)>ax (ax (ax (a+b)-1)-52) then(-1074:Z) else ax (ax (ax (a+b)-1)-52))-a),i,f,())).bind λ(q,_)=>Y (q,())) ((mS (e,ax (a-(if(-1074:Z)>ax (ax (ax (a+b)-1)-52) then(-1074:Z) else ax (ax (ax (a+b)-1)-52))),())).bind λ(r,_)=>Y (r,()))) λ(j,_)=>(Db (j,())).bind λ(g,_,_)=>bB (α:=nr) (bif g==9007199254740992 then Y (aP (if(-1074:Z)>ax (ax (ax (a+b)-1)-52) then(-1074:Z) else ax (ax (ax (a+b)-1)-52)),4503599627370496,()) else
 Y ((if(-1074:Z)>ax (ax (ax (a+b)-1)-52) then(-1074:Z) else ax (ax (ax (a+b)-1)-52)),g,())) λ(h,d,_)=>bB (α:=bt⊕cJ) (bB (α:=he) (bw (br (d>=4503599627370496)==bp) (Y (br (ax (h+53)>1024),())) (Y (bq,()))) λ(s,_)=>bw s ((zE (c,f,())).bind λ(m,_)=>Y (.inr (m,()))) (bw (br (d>=4503599627370496)) ((h0 bE (aM (ax (h+1075))) 52).bind λt=>(q4 (c,gk bE t (aM (ax (d-4503599627370496))),())).bind λ(n,_)=>Y (.inr (n,()))) (Y (.inl ())))) λk=>match k with
 |.inl _=>((q4 (c,aM d,())).bind λ(o,_)=>Y (o,()))
 |.inr l=>Y l))
def w5:(fk×Z×bt)->bv cJ:=λ(b,c,_)=>(lY (b,())).bind λ(a,_)=>(bw a.1 (Y (9221120237041090560,())) ((lW (a.2.1,())).bind λ(aJ,_)=>bw (aJ==0) (Y (0,())) ((q1 (a.2.1,())).bind λ(d,_)=>(zF (a.2.1.1,d,a.2.2.1,bq,c,())).bind λ(e,_)=>Y (e,()))))
def Dn:nr->bv cJ:=λ(b,a,_)=>(uH (b,())).bind λ(c,_)=>(w5 (c,a,())).bind λ(aJ,_)=>Y (aJ,())
def wO:cJ->bv nr:=λ(a,_)=>(eJ bE a 52).bind λb=>Y (ax (eT bE b 2047),eT bE a 4503599627370495,())
def nz:cJ->bv he:=λ(a,_)=>(wO (a,())).bind λ(b,_,_)=>Y ((b !=2047),())
def iy:hm->bv hm:=λ(b,_)=>(loop (σ:=cJ) (ρ:=cJ) (λ(a,_)=>bB (α:=bt⊕(cJ⊕cJ)) (bw (br (a>0)==bp) ((ao b (ax (a-1))).bind λi=>bw (i==0) (Y (.inl ())) (Y (.inr (.inr (a,()))))) (Y (.inr (.inr (a,()))))) λg=>match g with
 |.inl _=>(Y (.inl (ax (a-1),())))
 |.inr h=>Y h) (al b,())).bind λ(f,_)=>((Y (0)).bind λc=>(gu f).bind λd=>(g9 c d b.length).map λ_=>(c,d)).bind λe=>Y (((b.take e.2).drop e.1),())
def lV:(bA×be×bt)->bv gJ:=λ(c,b,_)=>(iy (b,())).bind λ(a,_)=>(bw (al a==0) (Y ((bq,(([]:be),())),())) (Y ((c,(a,())),())))
def ux:cJ->bv gJ:=λ(a,_)=>bB (α:=(Z×eL×bt)) (bw (br (a<0)) (Y (aM (0-aM a),(bq,([],())),())) (Y (aM a,(bq,([],())),()))) λ(b,_,_)=>(eJ bE b 32).bind λd=>(lV (br (a<0),[dd (eT bE b 4294967295),dd d],())).bind λ(c,_)=>Y (c,())
def Cc:cJ->bv he:=λ(a,_)=>Y ((eT bE a 9223372036854775808 !=0),())
def uB:hm->bv hm:=λ(a,_)=>rB a.length (Y ([],())) ((cC (([]:be).length+a.length)).bind λ_=>Y (([]++a),()))
def sv:gJ->bv gJ:=λ(a,_)=>(uB (a.2.1,())).bind λ(b,_)=>(lV ((!a.1),b,())).bind λ(c,_)=>Y (c,())
def y4:bt->bv gV:=λ_=>Y ((bp,((bq,([],())),((0:Z),()))),())
def Cn:gJ->bv gJ:=λ(a,_)=>(uB (a.2.1,())).bind λ(b,_)=>(lV (a.1,b,())).bind λ(c,_)=>Y (c,())
def pV:gJ->bv cJ:=λ(a,_)=>(iy (a.2.1,())).bind λ(b,_)=>(bw (al b==0) (Y (0,())) (bw a.1 (Y ((-1:Z),())) (Y (1,()))))
def ze:gJ->bv cJ:=λ(b,_)=>(loop (σ:=cJ) (ρ:=np) (λ(a,_)=>bw (br (a<al b.2.1)) ((ao b.2.1 a).bind λc=>bw (c !=0) ((wX (c,())).bind λ(aJ,_)=>Y (.inr (.inr (ax (ax (a*32)+aJ),())))) (Y (.inl (aP a,())))) (Y (.inr (.inl ())))) (0,())).bind λd=>match d with
 |.inl _=>(Y (0,()))
 |.inr e=>Y e
def zh:hm->bv cJ:=λ(a,_)=>(bw (al a==0) (Y (0,())) ((ao a (ax (al a-1))).bind λc=>(wW (c,())).bind λ(b,_)=>Y (ax (ax (ax (al a-1)*32)+b),())))
def su:gJ->bv cJ:=λ(a,_)=>(iy (a.2.1,())).bind λ(b,_)=>(zh (b,())).bind λ(c,_)=>Y (c,())
def wT:nq->bv hm:=λ(b,e,_)=>(bw (al b==0) (Y ([],())) ((kc bK e 32).bind λc=>(iM e 32).bind λj=>(fV (aP (ax (c+al b))) (aP (ax (c+al b)))).bind λg=>(loop (σ:=iG) (ρ:=hm) (λ(a,d,_)=>bw (br (a<al b)) ((ao b a).bind λk=>(h0 bE (aM k) (aM j)).bind λf=>rd d (ax (c+a)) λl=>wr d (ax (c+a)) (gk cc l (dd (eT bE f 4294967295))) λn=>(eJ bE f 32).bind λm=>wr n (aP (ax (c+a))) (dd m) λo=>Y (.inl (aP a,o,()))) (Y (.inr (d,())))) (0,bJ g (0:Z),())).bind λ(h,_)=>(iy (h,())).bind λ(i,_)=>Y (i,())))
def GR:cJ->bv he:=λ(a,_)=>Y ((a !=0),())
def G4:(be×bt×bt)->bv cJ:=λ(b,_,_)=>(loop (σ:=cJ) (ρ:=np) (λ(a,_)=>bw (br (a<al b)) ((ao b a).bind λf=>(GR (f,())).bind λ(e,_)=>bw e (Y (.inr (.inr (a,())))) (Y (.inl (aP a,())))) (Y (.inr (.inl ())))) (0,())).bind λc=>match c with
 |.inl _=>(Y ((-1:Z),()))
 |.inr d=>Y d
def zo:(be×bt×bt)->bv he:=λ(b,_,_)=>(G4 (b,(),())).bind λ(a,_)=>Y (br (a>=0),())
def zg:nq->bv (be×bA×bt):=λ(a,h,_)=>(kc bK h 32).bind λb=>(iM h 32).bind λj=>(bif br (b>=al a) then Y ([],br (al a>0),()) else bB (α:=he) (((Y (0)).bind λe=>(gu b).bind λf=>(g9 e f a.length).map λ_=>(e,f)).bind λi=>(zo (((a.take i.2).drop i.1),(),())).bind λ(p,_)=>bw (p==bq) ((ao a b).bind λs=>(h0 cc 1 (aM j)).bind λt=>Y ((eT cc s (dd (t-1))!=0),())) (Y (bp,()))) λ(l,_)=>(fV (ax (al a-b)) (ax (al a-b))).bind λg=>(loop (σ:=iG) (ρ:=hm) (λ(c,d,_)=>bif br (c<al (bJ g (0:Z))) then bB (α:=hm) ((ao a (ax (b+c))).bind λk=>bB (α:=iG) (bw (br (aP (ax (b+c))<al a)) ((ao a (aP (ax (b+c)))).bind λu=>(h0 bE (aM u) 32).bind λv=>Y (gk bE (aM k) v,d,())) (Y (aM k,d,()))) λ(r,m,_)=>
 (eJ bE r (aM j)).bind λw=>wr m c (dd (eT bE w 4294967295)) λx=>Y (x,())) λ(n,_)=>Y (.inl (aP c,n,())) else Y (.inr (d,()))) (0,bJ g (0:Z),())).bind λ(o,_)=>(iy (o,())).bind λ(q,_)=>Y (q,l,()))
def wS:jQ->bv hm:=λ(b,d,_)=>bB (α:=jQ) (bw (br (al b<al d)) (Y (d,b,())) (Y (b,d,()))) λ(c,h,_)=>(fV 0 (aP (al c))).bind λn=>(loop (σ:=pJ) (ρ:=iG) (λ(e,a,f,_)=>bw (br (a<al c)) (bB (α:=iG) ((ao c a).bind λl=>bB (α:=iG) (bw (br (a<al h)) ((ao h a).bind λq=>Y (aM (aM (aM l+e)+aM q),f,())) (Y (aM (aM l+e),f,()))) λ(g,j,_)=>(cC (j.length+([dd (eT bE g 4294967295)]).length)).bind λ_=>(eJ bE g 32).bind λr=>Y (r,(j++[dd (eT bE g 4294967295)]),())) λ(m,o,_)=>Y (.inl (m,aP a,o,()))) (Y (.inr (e,f,())))) (0,0,bJ n (0:Z),())).bind λ(i,k,_)=>(cC (k.length+([dd i]).length)).bind λ_=>(iy ((k++[dd i]),())).bind λ(p,_)=>Y (p,())
def qZ:pK->bv pK:=λ(b,a,_)=>bB (α:=gJ⊕pK) (bB (α:=(bA×eL×bt)) (bw (br (a<(-1048576:Z))==bq) (Y (br (a>1048576),(bq,([],())),())) (Y (bp,(bq,([],())),()))) λ(p,q,_)=>bw p (Y (.inr ((bq,(([]:be),())),3,()))) (Y (.inl (q,())))) λh=>match h with
 |.inl (f,_)=>((iy (b.2.1,())).bind λ(c,_)=>bw (br (a>=0)) ((wT (c,a,())).bind λ(m,_)=>(lV (b.1,m,())).bind λ(n,_)=>Y (n,0,())) ((zg (c,ax (0-a),())).bind λ(d,j,_)=>bB (α:=(be×eL×bt)) (bB (α:=(bA×eL×bt)) (bw (b.1==bp) (Y (j,f,())) (Y (bq,f,()))) λ(o,e,_)=>bw o ((wS (d,[1],())).bind λ(k,_)=>Y (k,e,())) (Y (d,e,()))) λ(g,_,_)=>(lV (b.1,g,())).bind λ(l,_)=>Y (l,0,())))
 |.inr i=>Y i
def y5:pK->bv gJ:=λ(d,f,_)=>(loop (σ:=(Z×eL×eL×bt)) (ρ:=(Z×eL×eL×bt)) (λ(a,b,c,_)=>bw (br (a>1048576)) ((qZ (b,(-1048576:Z),())).bind λ(i,_,_)=>Y (.inl (ax (a-1048576),i,c,()))) (Y (.inr (a,b,c,())))) (f,d,(bq,([],())),())).bind λ(g,e,_,_)=>(qZ (e,ax (0-g),())).bind λ(h,_,_)=>Y (h,())
def pU:gV->bv (fk×bA×bt):=λ(a,_)=>(bif a.1 then(y4 ()).bind λ(j,_)=>Y (j,bq,()) else(Cn (a.2.1,())).bind λ(b,_)=>(pV (b,())).bind λ(aJ,_)=>bif aJ==0 then Y ((bq,((bq,([],())),((0:Z),()))),bp,()) else((ze (b,())).bind λ(c,_)=>bB (α:=(fk×eL×bt)⊕(fk×bA×bt)) (bB (α:=(bA×fk×eL×bt)) ((su (b,())).bind λ(k,_)=>bw (br (a.2.2.1>ax (65536-k))==bq) (Y (br (a.2.2.1<ax ((-65536:Z)-c)),(bq,((bq,([],())),((0:Z),()))),b,())) (Y (bp,(bq,((bq,([],())),((0:Z),()))),b,()))) λ(l,m,e,_)=>bw l ((y4 ()).bind λ(h,_)=>Y (.inr (h,bq,()))) (Y (.inl (m,e,())))) λf=>match f with
 |.inl (_,d,_)=>((y5 (d,c,())).bind λ(i,_)=>Y ((bq,(i,(ax (a.2.2.1+c),()))),bp,()))
 |.inr g=>Y g))
def us:pK->bv gV:=λ(b,a,_)=>(pU ((bq,(b,(a,()))),())).bind λ(c,_,_)=>Y (c,())
def jT:cJ->bv gV:=λ(b,_)=>(wO (b,())).bind λ(a,c,_)=>bB (α:=(Z×Z×fk×bt)⊕gV) (bw (a==2047) (Y (.inr ((bp,((bq,([],())),((0:Z),()))),()))) (bw (a==0) (Y (.inl ((-1074:Z),c,(bq,((bq,([],())),((0:Z),()))),()))) (Y (.inl (ax (a-1075),gk bE c 4503599627370496,(bq,((bq,([],())),((0:Z),()))),()))))) λi=>match i with
 |.inl (f,g,e,_)=>((ux (ax g,())).bind λ(d,_)=>bB (α:=(fk×eL×bt)) ((Cc (b,())).bind λ(l,_)=>bw l ((sv (d,())).bind λ(m,_)=>Y (e,m,())) (Y (e,d,()))) λ(_,h,_)=>(us (h,f,())).bind λ(k,_)=>Y (k,()))
 |.inr j=>Y j
def wM:lr->bv (fk×fk×bA×bt):=λ(c,d,_)=>(pU (c,())).bind λ(a,aJ,_)=>(pU (d,())).bind λ(b,e,_)=>(bw (aJ==bp) (Y (a,b,e,())) (Y (a,b,bq,())))
def Cr:jQ->bv hm:=λ(c,a,_)=>bB (α:=bt⊕hm) (bw ((al c==0)==bq) (bw (al a==0) (Y (.inr ([],()))) (Y (.inl ()))) (Y (.inr ([],())))) λo=>match o with
 |.inl _=>((fV (ax (al c+al a)) (ax (al c+al a))).bind λl=>(loop (σ:=iG) (ρ:=hm) (λ(b,g,_)=>bw (br (b<al c)) ((ao c b).bind λh=>(loop (σ:=pJ) (ρ:=iG) (λ(e,d,f,_)=>bw (br (d<al a)) ((ao a d).bind λi=>rd f (ax (b+d)) λj=>wr f (ax (b+d)) (dd (eT bE (aM (aM (aM (aM h*aM i)+aM j)+e)) 4294967295)) λs=>(eJ bE (aM (aM (aM (aM h*aM i)+aM j)+e)) 32).bind λr=>Y (.inl (r,aP d,s,()))) (Y (.inr (e,f,())))) (0,0,g,())).bind λ(k,m,_)=>wr m (ax (b+al a)) (dd k) λt=>Y (.inl (aP b,t,()))) (Y (.inr (g,())))) (0,bJ l (0:Z),())).bind λ(n,_)=>(iy (n,())).bind λ(q,_)=>Y (q,()))
 |.inr p=>Y p
def Cm:ls->bv gJ:=λ(a,b,_)=>(iy (a.2.1,())).bind λ(c,_)=>(iy (b.2.1,())).bind λ(aJ,_)=>(Cr (c,aJ,())).bind λ(d,_)=>(lV ((!(a.1==b.1)),d,())).bind λ(e,_)=>Y (e,())
def ny:lr->bv gV:=λ(b,c,_)=>(wM (b,c,())).bind λ(a,aJ,d,_)=>(bw (!d) ((y4 ()).bind λ(e,_)=>Y (e,())) ((Cm (a.2.1,aJ.2.1,())).bind λ(f,_)=>(us (f,ax (a.2.2.1+aJ.2.2.1),())).bind λ(g,_)=>Y (g,())))
def B5:gV->bv gV:=λ(b,_)=>(pU (b,())).bind λ(a,d,_)=>bB (α:=lr) (bw d ((sv (a.2.1,())).bind λ(aJ,_)=>Y ((a.1,(aJ,a.2.2)),(bq,((bq,([],())),((0:Z),()))),())) (Y (a,(bq,((bq,([],())),((0:Z),()))),()))) λ(c,_,_)=>Y (c,())
def oU:pK->bv gJ:=λ(a,b,_)=>(qZ (a,b,())).bind λ(c,_,_)=>Y (c,())
def B4:cJ->bv he:=λ(a,_)=>Y ((a !=a),())
def B2:nr->bv cJ:=λ(a,b,_)=>(B4 (a,())).bind λ(c,_)=>(B4 (b,())).bind λ(aJ,_)=>(bw c (bw aJ (Y (0,())) (Y ((-1:Z),()))) (bw aJ (Y (1,())) (bw (br (a<b)) (Y ((-1:Z),())) (bw (br (a>b)) (Y (1,())) (Y (0,()))))))
def wQ:jQ->bv cJ:=λ(b,c,_)=>(bif al b !=al c then(uq (al b,al c,())).bind λ(f,_)=>Y (f,()) else((loop (σ:=cJ) (ρ:=np) (λ(a,_)=>bw (br (a>=0)) ((ao b a).bind λh=>(ao c a).bind λi=>bw (h !=i) ((ao b a).bind λj=>(ao c a).bind λk=>(B2 (j,k,())).bind λ(g,_)=>Y (.inr (.inr (g,())))) (Y (.inl (ax (a-1),())))) (Y (.inr (.inl ())))) (ax (al b-1),())).bind λd=>match d with
 |.inl _=>(Y (0,()))
 |.inr e=>Y e))
def wR:jQ->bv hm:=λ(b,d,_)=>(fV (al b) (al b)).bind λi=>(loop (σ:=pJ) (ρ:=hm) (λ(e,a,c,_)=>bw (br (a<al b)) (bB (α:=iG) ((ao b a).bind λg=>bB (α:=iG) (bw (br (a<al d)) ((ao d a).bind λn=>Y (aM (aM (aM g-e)-aM n),c,())) (Y (aM (aM g-e),c,()))) λ(f,j,_)=>wr j a (dd (eT bE f 4294967295)) λp=>(eJ bE f 32).bind λo=>Y (eT bE o 1,p,())) λ(h,k,_)=>Y (.inl (h,aP a,k,()))) (Y (.inr (c,())))) (0,0,bJ i (0:Z),())).bind λ(l,_)=>(iy (l,())).bind λ(m,_)=>Y (m,())
def uw:ls->bv gJ:=λ(a,c,_)=>(iy (a.2.1,())).bind λ(b,_)=>(iy (c.2.1,())).bind λ(aJ,_)=>(bw (a.1==c.1) ((wS (b,aJ,())).bind λ(f,_)=>(lV (a.1,f,())).bind λ(g,_)=>Y (g,())) ((wQ (b,aJ,())).bind λ(h,_)=>bw (br (h>=0)) ((wR (b,aJ,())).bind λ(i,_)=>(lV (a.1,i,())).bind λ(j,_)=>Y (j,())) ((wR (aJ,b,())).bind λ(d,_)=>(lV (c.1,d,())).bind λ(e,_)=>Y (e,()))))
def mR:gV->bv cJ:=λ(a,_)=>(pU (a,())).bind λ(b,_,_)=>(pV (b.2.1,())).bind λ(aJ,_)=>Y (aJ,())
def wK:gV->bv gV:=λ(a,_)=>(pU (a,())).bind λ(b,_,_)=>Y (b,())
def Cq:nq->bv nq:=λ(a,c,_)=>(fV (al a) (al a)).bind λh=>(loop (σ:=pJ) (ρ:=iG) (λ(e,b,d,_)=>bw (br (b>=0)) ((h0 bE e 32).bind λf=>(ao a b).bind λg=>(kc bE (gk bE f (aM g)) (aM c)).bind λl=>wr d b (dd l) λn=>(iM (gk bE f (aM g)) (aM c)).bind λm=>Y (.inl (m,ax (b-1),n,()))) (Y (.inr (e,d,())))) (0,ax (al a-1),bJ h (0:Z),())).bind λ(k,i,_)=>(iy (i,())).bind λ(j,_)=>Y (j,dd k,())
def uz:cJ->bv cJ:=λ(b,_)=>(wW (b,())).bind λ(a,_)=>Y (ax (32-a),())
def zf:((be×X×X)×be×bt)->bv nq:=λ(b,a,_)=>(bj (b.2.2-b.2.1) (al a)).bind λV=>(a9 b.1 (b.2.1+V) λP=>Y P).bind λdl=>(h0 bE (aM dl) 32).bind λI=>(bj (b.2.2-b.2.1) (ax (al a-1))).bind λav=>(a9 b.1 (b.2.1+av) λT=>Y T).bind λK=>(ao a (ax (al a-1))).bind λbs=>(kc bE (gk bE I (aM K)) (aM bs)).bind λbx=>(ao a (ax (al a-1))).bind λce=>(iM (gk bE I (aM K)) (aM ce)).bind λci=>(loop (σ:=(ep×Z×Z×be×bt)) (ρ:=(ep×Z×be×bt)) (λ(g,h,r,m,_)=>bB (α:=(ep×be×bt)⊕((ep×Z×Z×be×bt)⊕(ep×Z×be×bt))) (bif br (h>4294967295)==bq then(ao a (ax (al a-2))).bind λco=>(h0 bE r 32).bind λcs=>(bj (g.2-g.1) (ax (al a-2))).bind λU=>(a9 m (g.1+U) λN=>Y N).bind λcv=>bif br (aM (h*aM co)>gk bE cs (aM cv)) then
 Y (.inl (g,m,())) else Y (.inr (.inr (g,h,m,()))) else Y (.inl (g,m,()))) λa0=>match a0 with
 |.inl (C,D,_)=>((ao a (ax (al a-1))).bind λE=>bw (br (aM (r+aM E)>4294967295)) (Y (.inr (C,aM (h-1),D,()))) (Y (.inl (C,aM (h-1),aM (r+aM E),D,()))))
 |.inr a3=>Y a3) (b.2,bx,ci,b.1,())).bind λ(a4,i,bl,_)=>(loop (σ:=(ep×Z×Z×Z×be×bt)) (ρ:=(ep×Z×Z×be×bt)) (λ(e,l,p,j,n,_)=>bw (br (j<al a)) ((ao a j).bind λu=>(eJ bE (aM (aM (i*aM u)+l)) 32).bind λc1=>(bj (e.2-e.1) j).bind λad=>(a9 n (e.1+ad) λO=>Y O).bind λF=>(bj (e.2-e.1) j).bind λy=>(a9 n (e.1+y) λ_=>Y (n.set (e.1+y) (dd (eT bE (aM (aM (aM F-eT bE (aM (aM (i*aM u)+l)) 4294967295)-p)) 4294967295)))).bind λd2=>(eJ bE (aM (aM (aM F-eT bE (aM (aM (i*aM u)+l)) 4294967295)-p)) 32).bind λc2=>Y (.inl (e,c1,eT bE c2 1,aP j,d2,()))) (Y (.inr (e,l,p,n,())))) (a4,0,0,0,bl,())).bind λ(c,x,w,s,_)=>(bj (c.2-c.1) (al a)).bind λam=>(a9 s (c.1+am) λQ=>Y Q).bind λG=>
 (bj (c.2-c.1) (al a)).bind λz=>(a9 s (c.1+z) λ_=>Y (s.set (c.1+z) (dd (eT bE (aM (aM (aM G-x)-w)) 4294967295)))).bind λv=>(eJ bE (aM (aM (aM G-x)-w)) 32).bind λds=>(bif eT bE ds 1==0 then bw (bH c.1 b.2.1&&(bH c.2 b.2.2&&(bH v.length ((b.1).length)&&ca c.1 c.2))) (Y (v,dd i,())) bo else(loop (σ:=(ep×Z×Z×be×bt)) (ρ:=(ep×Z×be×bt)) (λ(f,q,k,o,_)=>bw (br (k<al a)) ((ao a k).bind λH=>(bj (f.2-f.1) k).bind λan=>(a9 o (f.1+an) λR=>Y R).bind λJ=>(bj (f.2-f.1) k).bind λA=>(a9 o (f.1+A) λ_=>Y (o.set (f.1+A) (dd (eT bE (aM (aM (aM J+aM H)+q)) 4294967295)))).bind λd3=>(eJ bE (aM (aM (aM J+aM H)+q)) 32).bind λd0=>Y (.inl (f,d0,aP k,d3,()))) (Y (.inr (f,q,o,())))) (c,0,0,v,())).bind λ(d,M,t,_)=>
 (bj (d.2-d.1) (al a)).bind λap=>(a9 t (d.1+ap) λS=>Y S).bind λd1=>(bj (d.2-d.1) (al a)).bind λB=>(a9 t (d.1+B) λ_=>Y (t.set (d.1+B) (dd (d1+dd M)))).bind λL=>bw (bH d.1 b.2.1&&(bH d.2 b.2.2&&(bH L.length ((b.1).length)&&ca d.1 d.2))) (Y (L,dd (aM (i-1)),())) bo)
def Cp:jQ->bv jQ:=λ(a,b,_)=>(wQ (a,b,())).bind λ(t,_)=>(bif br (t<0) then(uB (a,())).bind λ(u,_)=>Y ([],u,()) else bif al b==1 then(ao b 0).bind λC=>(Cq (a,C,())).bind λ(v,w,_)=>(iy ([w],())).bind λ(x,_)=>Y (v,x,()) else(ao b (ax (al b-1))).bind λD=>(uz (D,())).bind λ(h,_)=>(wT (b,h,())).bind λ(e,_)=>(fV (aP (al a)) (aP (al a))).bind λc=>(wT (a,h,())).bind λ(i,_)=>(fV (ax (al (jm (bJ c (0:Z)) i 0 (bJ c (0:Z)).length)-al e)) (ax (al (jm (bJ c (0:Z)) i 0 (bJ c (0:Z)).length)-al e))).bind λn=>(loop (σ:=(Z×be×be×bt)) (ρ:=jQ) (λ(d,p,g,_)=>bif br (d>=0) then((gu d).bind λj=>(gu (aP (ax (d+al e)))).bind λk=>(g9 j k g.length).bind λ_=>(nL g.length).map λ_=>(j,k)).bind λf=>
 bw (ca f.1 f.2) ((zf ((g,f.1,f.2),e,())).bind λ(r,y,_)=>wr p d y λE=>Y (.inl (ax (d-1),E,r,()))) bo else Y (.inr (p,g,()))) (ax (al (bJ n (0:Z))-1),bJ n (0:Z),jm (bJ c (0:Z)) i 0 (bJ c (0:Z)).length,())).bind λ(s,q,_)=>((Y (0)).bind λl=>(gu (al e)).bind λm=>(g9 l m q.length).map λ_=>(l,m)).bind λo=>(iy (((q.take o.2).drop o.1),())).bind λ(z,_)=>(zg (z,h,())).bind λ(A,_,_)=>(iy (s,())).bind λ(B,_)=>Y (B,A,()))
def zd:ls->bv cJ:=λ(b,c,_)=>(pV (b,())).bind λ(a,_)=>(pV (c,())).bind λ(aJ,_)=>(bw (br (a<aJ)) (Y ((-1:Z),())) (bw (br (a>aJ)) (Y (1,())) ((iy (b.2.1,())).bind λ(d,_)=>(iy (c.2.1,())).bind λ(e,_)=>(wQ (d,e,())).bind λ(f,_)=>Y (ax (a*f),()))))
def B7:(wq×bt)->bv cJ:=λ(a,_)=>(su (a.2.1,())).bind λ(b,_)=>Y (ax (ax (a.2.2.1+b)-1),())
def Co:ls->bv gJ:=λ(b,a,_)=>(uw (b,((!a.1),a.2),())).bind λ(c,_)=>Y (c,())
def y2:(wq×Z×bt)->bv (eL×Z×bA×bt):=λ(a,b,_)=>(su (a.2.1,())).bind λ(h,_)=>(bw (br (b>h)) (Y ((bq,(([]:be),())),(-1:Z),bq,())) ((y5 (a.2.1,b,())).bind λ(aJ,_)=>(oU (aJ,b,())).bind λ(i,_)=>(Co (a.2.1,i,())).bind λ(c,_)=>(ux (1,())).bind λ(j,_)=>(oU (j,ax (b-1),())).bind λ(k,_)=>(zd (c,k,())).bind λ(d,_)=>bB (α:=(Z×eL×eL×bt)) (bw ((d==0)==bp) (bw a.2.2.2.1 (Y (1,aJ,c,())) (Y (d,aJ,c,()))) (Y (d,aJ,c,()))) λ(e,f,l,_)=>(pV (l,())).bind λ(g,_)=>bw ((g==0)==bp) (Y (f,e,(!a.2.2.2.1),())) (Y (f,e,bq,()))))
def B8:(wq×Z×Z×bt)->bv gJ:=λ(c,e,d,_)=>bB (α:=(Z×bA×eL×eL×bt)) (bw (br (e<=c.2.2.1)) ((oU (c.2.1,ax (c.2.2.1-e),())).bind λ(aJ,_)=>Y ((-1:Z),bp,(bq,([],())),aJ,())) ((y2 (c,ax (e-c.2.2.1),())).bind λ(s,t,u,_)=>Y (t,u,(bq,([],())),s,()))) λ(f,l,b,a,_)=>bB (α:=(bA×eL×eL×bt)) (bw l (Y (bq,b,a,())) (bw (d==1) (Y (c.1,b,a,())) (bw (d==2) (Y ((!c.1),b,a,())) (bw (d==3) (Y (bq,b,a,())) (bw (br (f>0)==bq) (bw ((f==0)==bp) ((pV (a,())).bind λ(n,_)=>bw ((n !=0)==bp) ((ze (a,())).bind λ(o,_)=>Y ((o==0),b,a,())) (Y (bq,b,a,()))) (Y (bq,b,a,()))) (Y (bp,b,a,()))))))) λ(k,i,g,_)=>bB (α:=ls) (bw k ((ux (1,())).bind λ(p,_)=>(uw (g,p,())).bind λ(q,_)=>Y (i,q,())) (Y (i,g,()))) λ(j,h,_)=>bB (α:=ls) (bw c.1 ((sv (h,())).bind λ(r,_)=>Y (j,r,())) (Y (j,h,()))) λ(_,m,_)=>Y (m,())
def uv:gJ->bv gJ:=λ(a,_)=>(uB (a.2.1,())).bind λ(b,_)=>(lV (bq,b,())).bind λ(c,_)=>Y (c,())
def Cl:gJ->bv eg:=λ(c,_)=>(iy (c.2.1,())).bind λ(d,_)=>(bif br (al d>2) then Y (0,bq,()) else((loop (σ:=nr) (ρ:=cJ) (λ(e,b,_)=>bw (br (b<al d)) ((ao d b).bind λj=>(h0 bE (aM j) (ax (32*b))).bind λk=>Y (.inl (gk bE e k,aP b,()))) (Y (.inr (e,())))) (0,0,())).bind λ(a,_)=>bB (α:=bt⊕eg) (bB (α:=he) (bw (c.1==bp) (bw (br (a>0)==bp) (Y (br (a<=9223372036854775808),())) (Y (bq,()))) (Y (bq,()))) λ(h,_)=>bw h (Y (.inr (ax (ax (0-ax (aM (a-1)))-1),bp,()))) (bB (α:=he) (bw (br (a<9223372036854775808)==bp) (bw ((!c.1)==bq) (Y ((a==0),())) (Y (bp,()))) (Y (bq,()))) λ(i,_)=>bw i (Y (.inr (ax a,bp,()))) (Y (.inl ())))) λf=>match f with
 |.inl _=>(Y (0,bq,()))
 |.inr g=>Y g))
def uu:eg->bv cJ:=λ(a,b,_)=>(bw b (Y (gk bE a 9223372036854775808,())) (Y (a,())))
def Cd:ei->bv cJ:=λ(a,b,_)=>bB (α:=bt⊕cJ) (bB (α:=he) (bw ((b==3)==bq) (bw ((b==1)==bp) (bw ((!a)==bq) (bw ((b==2)==bp) (Y (a,())) (Y (bq,()))) (Y (bp,()))) (bw ((b==2)==bp) (Y (a,())) (Y (bq,())))) (Y (bp,()))) λ(f,_)=>bw f ((uu (9218868437227405311,a,())).bind λ(aJ,_)=>Y (.inr (aJ,()))) (Y (.inl ()))) λc=>match c with
 |.inl _=>((uu (9218868437227405312,a,())).bind λ(e,_)=>Y (e,()))
 |.inr d=>Y d
def y6:(wq×Z×bt)->bv cJ:=λ(b,d,_)=>(B7 (b,())).bind λ(a,_)=>(B8 (b,(if(-1074:Z)>ax (a-52) then(-1074:Z) else ax (a-52)),d,())).bind λ(aJ,_)=>(uv (aJ,())).bind λ(j,_)=>(Cl (j,())).bind λ(f,_,_)=>bB (α:=nr) (bw (aM f==9007199254740992) (Y (aP (if(-1074:Z)>ax (a-52) then(-1074:Z) else ax (a-52)),4503599627370496,())) (Y ((if(-1074:Z)>ax (a-52) then(-1074:Z) else ax (a-52)),aM f,()))) λ(e,c,_)=>(bw (br (c<4503599627370496)) ((uu (c,b.1,())).bind λ(g,_)=>Y (g,())) (bw (br (ax (e+1075)>=2047)) ((Cd (b.1,d,())).bind λ(h,_)=>Y (h,())) ((h0 bE (aM (ax (e+1075))) 52).bind λk=>(uu (gk bE k (aM (c-4503599627370496)),b.1,())).bind λ(i,_)=>Y (i,()))))
def B9:cJ->bv cJ:=λ(c,_)=>(wO (c,())).bind λ(a,b,_)=>bB (α:=he) (bw ((a==2047)==bp) (Y ((b !=0),())) (Y (bq,()))) λ(d,_)=>(bw d (Y (3,())) (bw (a==2047) (Y (2,())) (bw ((a==0)==bp) (bw (b==0) (Y (0,())) (Y (1,()))) (Y (1,())))))
def Ck:ls->bv (eL×eL×Z×bt):=λ(a,d,_)=>(iy (d.2.1,())).bind λ(b,_)=>(bw (al b==0) (Y ((bq,(([]:be),())),(bq,(([]:be),())),8,())) ((iy (a.2.1,())).bind λ(aJ,_)=>(Cp (aJ,b,())).bind λ(f,c,_)=>bB (α:=(be×be×eL×eL×bt)) (bB (α:=(bA×eL×eL×bt)) (bw (a.1==bp) (Y (br (al c>0),(bq,([],())),(bq,([],())),())) (Y (bq,(bq,([],())),(bq,([],())),()))) λ(n,e,g,_)=>bw n ((wS (f,[1],())).bind λ(j,_)=>(wR (b,c,())).bind λ(k,_)=>Y (j,k,e,g,())) (Y (f,c,e,g,()))) λ(h,i,_,_,_)=>(lV ((!(a.1==d.1)),h,())).bind λ(l,_)=>(lV (bq,i,())).bind λ(m,_)=>Y (l,m,0,())))
def B6:(fk×fk×Z×bt)->bv (wq×bt):=λ(a,b,c,_)=>(su (b.2.1,())).bind λ(aJ,_)=>(su (a.2.1,())).bind λ(d,_)=>(uv (a.2.1,())).bind λ(g,_)=>(oU (g,(if(ax (ax (ax (c+3)+aJ)-d))>0 then ax (ax (ax (c+3)+aJ)-d) else 0),())).bind λ(h,_)=>(uv (b.2.1,())).bind λ(i,_)=>(Ck (h,i,())).bind λ(j,e,_,_)=>(pV (e,())).bind λ(f,_)=>Y (((!(a.2.1.1==b.2.1.1)),(j,(ax (ax (a.2.2.1-(if(ax (ax (ax (c+3)+aJ)-d))>0 then ax (ax (ax (c+3)+aJ)-d) else 0))-b.2.2.1),((f !=0),())))),())
def ss:(fk×fk×Z×bt)->bv cJ:=λ(c,f,h,_)=>(wK (c,())).bind λ(aJ,_)=>(wK (f,())).bind λ(a,_)=>bB (α:=lr⊕cJ) (bB (α:=(bA×fk×fk×bt)) (bw (aJ.1==bq) (bw (a.1==bq) ((mR (a,())).bind λ(n,_)=>Y ((n==0),aJ,a,())) (Y (bp,aJ,a,()))) (Y (bp,aJ,a,()))) λ(o,b,g,_)=>bw o (Y (.inr (9221120237041090560,()))) ((mR (b,())).bind λ(k,_)=>bw (k==0) (Y (.inr (0,()))) (Y (.inl (b,g,()))))) λi=>match i with
 |.inl (d,e,_)=>((B6 (d,e,56,())).bind λ(l,_)=>(y6 (l,h,())).bind λ(m,_)=>Y (m,()))
 |.inr j=>Y j
def q3:cJ->bv he:=λ(a,_)=>(eJ bE a 52).bind λb=>Y ((eT bE b 2047 !=2047),())
def Do:cJ->bv he:=λ(a,_)=>Y ((eT bE a 9223372036854775808 !=0),())
def ku:cJ->bv gV:=λ(a,_)=>(q3 (a,())).bind λ(f,_)=>(bw (!f) ((sD ()).bind λ(g,_)=>Y (g,())) ((eJ bE a 52).bind λc=>bB (α:=(Z×Z×fk×bt)) (bw (br (ax (eT bE c 2047)>0)) (Y (gk bE (eT bE a 4503599627370495) 4503599627370496,ax (ax (eT bE c 2047)-1075),(bq,((bq,([],())),((0:Z),()))),())) (Y (eT bE a 4503599627370495,(-1074:Z),(bq,((bq,([],())),((0:Z),()))),()))) λ(b,d,_,_)=>(Do (a,())).bind λ(h,_)=>(eJ bE b 32).bind λi=>(oa ((h,([dd b,dd i],())),d,())).bind λ(e,_)=>Y (e,())))
def zD:gV->bv gV:=λ(b,_)=>(lY (b,())).bind λ(a,_)=>(bw a.1 (Y (a,())) ((q1 (a.2.1,())).bind λ(c,_)=>(oa (c,a.2.2.1,())).bind λ(aJ,_)=>Y (aJ,())))
def Dl:(BJ×bt)->bv gV:=λ(h,_)=>(loop (σ:=(Z×Z×fk×eL×bt)) (ρ:=((Z×fk×eL×bt)⊕gV)) (λ(b,e,c,d,_)=>bif br (e<al h) then(bB (α:=(Z×fk×eL×bt)⊕((Z×Z×fk×eL×bt)⊕((Z×fk×eL×bt)⊕gV))) ((ao h e).bind λv=>(lY (v,())).bind λ(a,_)=>bw a.1 ((sD ()).bind λ(q,_)=>Y (.inr (.inr (.inr (q,()))))) ((lW (a.2.1,())).bind λ(r,_)=>bw (r==0) (Y (.inl (b,c,d,()))) ((lW (d,())).bind λ(k,_)=>bw (k==0) (Y (.inl (a.2.2.1,c,a.2.1,()))) (bw (br (a.2.2.1>=b)) ((mS (a.2.1,ax (a.2.2.1-b),())).bind λ(l,_)=>(pX (d,l,())).bind λ(m,_)=>Y (.inl (b,c,m,()))) ((mS (d,ax (b-a.2.2.1),())).bind λ(n,_)=>(pX (n,a.2.1,())).bind λ(o,_)=>Y (.inl (a.2.2.1,c,o,()))))))) λf=>match f with
 |.inl (i,s,t,_)=>(Y (.inl (i,aP e,s,t,())))
 |.inr g=>Y g) else Y (.inr (.inl (b,c,d,())))) (0,0,(bq,((bq,([],())),((0:Z),()))),(bq,(([]:be),())),())).bind λf=>match f with
 |.inl (j,_,u,_)=>((oa (u,j,())).bind λ(p,_)=>Y (p,()))
 |.inr g=>Y g
def Df:jQ->bv hm:=λ(d,b,_)=>(fV (ax (al d+al b)) (ax (al d+al b))).bind λl=>(loop (σ:=iG) (ρ:=hm) (λ(a,g,_)=>bw (br (a<al d)) ((loop (σ:=pJ) (ρ:=iG) (λ(e,c,f,_)=>bw (br (c<al b)) ((ao d a).bind λj=>(ao b c).bind λh=>rd f (ax (a+c)) λi=>wr f (ax (a+c)) (dd (aM (aM (e+aM (aM j*aM h))+aM i))) λp=>(eJ bE (aM (aM (e+aM (aM j*aM h))+aM i)) 32).bind λo=>Y (.inl (o,aP c,p,()))) (Y (.inr (e,f,())))) (0,0,g,())).bind λ(k,m,_)=>wr m (ax (a+al b)) (dd k) λq=>Y (.inl (aP a,q,()))) (Y (.inr (g,())))) (0,bJ l (0:Z),())).bind λ(n,_)=>Y (n,())
def Dc:ls->bv gJ:=λ(a,b,_)=>(mi (a.2.1,())).bind λ(c,_)=>(mi (b.2.1,())).bind λ(aJ,_)=>(Df (c,aJ,())).bind λ(d,_)=>(lX ((!(a.1==b.1)),d,())).bind λ(e,_)=>Y (e,())
def j8:lr->bv gV:=λ(d,f,_)=>(lY (d,())).bind λ(a,_)=>(lY (f,())).bind λ(aJ,_)=>bB (α:=(fk×fk×fk×bt)⊕gV) (bB (α:=(bA×fk×fk×fk×bt)) (bw (a.1==bq) (Y (aJ.1,a,aJ,(bq,((bq,([],())),((0:Z),()))),())) (Y (bp,a,aJ,(bq,((bq,([],())),((0:Z),()))),()))) λ(m,e,g,n,_)=>bw m ((sD ()).bind λ(l,_)=>Y (.inr (l,()))) (Y (.inl (e,g,n,())))) λh=>match h with
 |.inl (b,c,_,_)=>((Dc (b.2.1,c.2.1,())).bind λ(j,_)=>(oa (j,ax (b.2.2.1+c.2.2.1),())).bind λ(k,_)=>Y (k,()))
 |.inr i=>Y i
def Di:gV->bv gV:=λ(b,_)=>(lY (b,())).bind λ(a,_)=>(bw a.1 (Y (a,())) ((zz (a.2.1,())).bind λ(c,_)=>(oa (c,a.2.2.1,())).bind λ(aJ,_)=>Y (aJ,())))
def zC:(be×be×Z×Z×bt)->bv (be×bA×bt):=λ(w,b,i,r,_)=>(fV (aP (al b)) (aP (al b))).bind λs=>(loop (σ:=(Z×Z×Z×be×be×bt)) (ρ:=(Z×be×be×bt)) (λ(d,h,a,g,f,_)=>bw (br (a<=al b)) (bB (α:=(Z×Z×be×be×bt)) (bB (α:=(Z×be×be×bt)) (bw (br (a<al b)) ((ao b a).bind λz=>Y (aM (h+aM (r*aM z)),g,f,())) (Y (h,g,f,()))) λ(e,k,t,_)=>rd k (ax (a+i)) λn=>(eJ bE e 32).bind λA=>wr t a (dd (aM (aM (aM n-d)-eT bE e 4294967295))) λD=>(eJ bE (aM (aM (aM n-d)-eT bE e 4294967295)) 63).bind λB=>Y (B,A,k,D,())) λ(o,q,x,u,_)=>Y (.inl (o,q,aP a,x,u,()))) (Y (.inr (d,g,f,())))) (0,0,0,w,bJ s (0:Z),())).bind λ(p,l,v,_)=>
 (bw (p !=0) (Y (l,bq,())) ((loop (σ:=(Z×be×be×bt)) (ρ:=hm) (λ(c,m,j,_)=>bw (br (c<=al b)) (rd j c λC=>wr m (ax (c+i)) C λE=>Y (.inl (aP c,E,j,()))) (Y (.inr (m,())))) (0,l,v,())).bind λ(y,_)=>Y (y,bp,())))
def De:jQ->bv jQ:=λ(b,a,_)=>(zA (b,a,())).bind λ(u,_)=>(bif br (u<0) then Y ([],b,()) else(ao a (ax (al a-1))).bind λE=>(uz (E,())).bind λ(i,_)=>(w2 (b,i,())).bind λ(e,_)=>(w2 (a,i,())).bind λ(f,_)=>((Y (0)).bind λj=>(gu (al a)).bind λk=>(g9 j k f.length).bind λ_=>(nL f.length).map λ_=>(j,k)).bind λd=>bB (α:=jQ) (bw (al e==al b) ((cC (e.length+([0]).length)).bind λ_=>Y (((f.take d.2).drop d.1),(e++[0]),())) (Y (((f.take d.2).drop d.1),e,()))) λ(o,A,_)=>(fV (aP (ax (al b-al a))) (aP (ax (al b-al a)))).bind λr=>(loop (σ:=(Z×be×be×bt)) (ρ:=jQ) (λ(c,g,m,_)=>bif br (c>=0) then rd g (ax (c+al a)) λF=>(h0 bE (aM F) 32).bind λG=>rd g (ax (ax (c+al a)-1)) λH=>
 (ao o (ax (al a-1))).bind λI=>(kc bE (gk bE G (aM H)) (aM I)).bind λp=>(loop (σ:=(Z×be×be×bt)) (ρ:=(Z×be×be×bt)) (λ(h,B,n,_)=>(zC (B,o,c,h,())).bind λ(l,v,_)=>bw (!v) (Y (.inl (aM (h-1),l,n,()))) (Y (.inr (h,l,n,())))) ((if 4294967295<p then 4294967295 else p),g,m,())).bind λ(q,C,s,_)=>wr s c (dd q) λJ=>Y (.inl (ax (c-1),C,J,())) else Y (.inr (g,m,()))) (ax (al b-al a),A,bJ r (0:Z),())).bind λ(D,t,_)=>(mi (D,())).bind λ(w,_)=>(w3 (w,i,())).bind λ(x,_,_)=>(mi (t,())).bind λ(y,_)=>(mi (x,())).bind λ(z,_)=>Y (y,z,()))
def Da:ls->bv ls:=λ(e,f,_)=>(pY (e,())).bind λ(a,_)=>(pY (f,())).bind λ(aJ,_)=>(De (a.2.1,aJ.2.1,())).bind λ(m,n,_)=>(lX ((!(a.1==aJ.1)),m,())).bind λ(b,_)=>(lX (a.1,n,())).bind λ(c,_)=>bB (α:=(eL×eL×eL×eL×bt)) ((lW (c,())).bind λ(o,_)=>bw (br (o<0)) ((q1 (aJ,())).bind λ(h,_)=>(pX (c,h,())).bind λ(d,_)=>bw aJ.1 ((sB (1,())).bind λ(i,_)=>(pX (b,i,())).bind λ(j,_)=>Y ((bq,([],())),(bq,([],())),j,d,())) ((sB (1,())).bind λ(k,_)=>(w1 (b,k,())).bind λ(l,_)=>Y ((bq,([],())),(bq,([],())),l,d,()))) (Y ((bq,([],())),(bq,([],())),b,c,()))) λ(_,_,g,p,_)=>Y (g,p,())
def C9:ls->bv cJ:=λ(a,b,_)=>(w1 (a,b,())).bind λ(c,_)=>(lW (c,())).bind λ(aJ,_)=>Y (aJ,())
def Dk:gV->bv cJ:=λ(b,_)=>(lY (b,())).bind λ(a,_)=>(bw a.1 (Y (0,())) ((lW (a.2.1,())).bind λ(c,_)=>Y (c,())))
def Dj:(eL×eL×Z×bt)->bv (eL×Z×bA×bt):=λ(c,d,a,_)=>(uG (d,())).bind λ(aJ,_)=>(uG (c,())).bind λ(b,_)=>(mS (c,(if 0>ax (ax (ax (a+2)+aJ)-b) then 0 else ax (ax (ax (a+2)+aJ)-b)),())).bind λ(e,_)=>(Da (e,d,())).bind λ(f,g,_)=>(lW (g,())).bind λ(h,_)=>Y (f,ax (0-(if 0>ax (ax (ax (a+2)+aJ)-b) then 0 else ax (ax (ax (a+2)+aJ)-b))),(h !=0),())
def Dp:(fk×fk×Z×bt)->bv cJ:=λ(d,e,f,_)=>(lY (d,())).bind λ(aJ,_)=>(lY (e,())).bind λ(c,_)=>bB (α:=lr⊕cJ) (bw (aJ.1==bq) (bw (c.1==bq) ((lW (c.2.1,())).bind λ(o,_)=>bw (o==0) (Y (.inr (9221120237041090560,()))) (Y (.inl (aJ,c,())))) (Y (.inr (9221120237041090560,())))) (Y (.inr (9221120237041090560,())))) λg=>match g with
 |.inl (a,b,_)=>((lW (a.2.1,())).bind λ(p,_)=>bw (p==0) (Y (0,())) ((q1 (a.2.1,())).bind λ(i,_)=>(q1 (b.2.1,())).bind λ(j,_)=>(Dj (i,j,60,())).bind λ(k,l,m,_)=>(zF ((!(a.2.1.1==b.2.1.1)),k,ax (ax (a.2.2.1-b.2.2.1)+l),m,f,())).bind λ(n,_)=>Y (n,())))
 |.inr h=>Y h
def sE:lr->bv (eL×eL×Z×bt):=λ(a,b,_)=>(lW (a.2.1,())).bind λ(c,_)=>(bw (c==0) (Y (a.2.1,b.2.1,b.2.2.1,())) ((lW (b.2.1,())).bind λ(aJ,_)=>bw (aJ==0) (Y (a.2.1,b.2.1,a.2.2.1,())) (bw (br (a.2.2.1>b.2.2.1)) ((mS (a.2.1,ax (a.2.2.1-b.2.2.1),())).bind λ(d,_)=>Y (d,b.2.1,b.2.2.1,())) ((mS (b.2.1,ax (b.2.2.1-a.2.2.1),())).bind λ(e,_)=>Y (a.2.1,e,a.2.2.1,())))))
def sC:lr->bv gV:=λ(b,f,_)=>(lY (b,())).bind λ(a,_)=>(lY (f,())).bind λ(aJ,_)=>bB (α:=(fk×fk×fk×bt)⊕gV) (bB (α:=(bA×fk×fk×fk×bt)) (bw (a.1==bq) (Y (aJ.1,a,aJ,(bq,((bq,([],())),((0:Z),()))),())) (Y (bp,a,aJ,(bq,((bq,([],())),((0:Z),()))),()))) λ(p,d,g,q,_)=>bw p ((sD ()).bind λ(o,_)=>Y (.inr (o,()))) (Y (.inl (d,g,q,())))) λh=>match h with
 |.inl (c,e,_,_)=>((sE (c,e,())).bind λ(j,k,l,_)=>(pX (j,k,())).bind λ(m,_)=>(oa (m,l,())).bind λ(n,_)=>Y (n,()))
 |.inr i=>Y i
def uI:lr->bv gV:=λ(a,b,_)=>(Di (b,())).bind λ(c,_)=>(sC (a,c,())).bind λ(aJ,_)=>Y (aJ,())
def Dg:lr->bv eg:=λ(b,e,_)=>(lY (b,())).bind λ(a,_)=>(lY (e,())).bind λ(aJ,_)=>bB (α:=lr⊕eg) (bB (α:=(bA×fk×fk×bt)) (bw (a.1==bq) (Y (aJ.1,a,aJ,())) (Y (bp,a,aJ,()))) λ(m,c,f,_)=>bw m (Y (.inr (0,bq,()))) (Y (.inl (c,f,())))) λh=>match h with
 |.inl (d,g,_)=>((sE (d,g,())).bind λ(j,k,_,_)=>(C9 (j,k,())).bind λ(l,_)=>Y (l,bp,()))
 |.inr i=>Y i
def qY:cJ->bv gV:=λ(a,_)=>(ux (a,())).bind λ(b,_)=>(us (b,0,())).bind λ(c,_)=>Y (c,())
def y3:lr->bv (eL×eL×Z×bt):=λ(a,b,_)=>(oU (a.2.1,ax (a.2.2.1-(if b.2.2.1<a.2.2.1 then b.2.2.1 else a.2.2.1)),())).bind λ(c,_)=>(oU (b.2.1,ax (b.2.2.1-(if b.2.2.1<a.2.2.1 then b.2.2.1 else a.2.2.1)),())).bind λ(aJ,_)=>Y (c,aJ,(if b.2.2.1<a.2.2.1 then b.2.2.1 else a.2.2.1),())
def y0:lr->bv gV:=λ(a,b,_)=>(wM (a,b,())).bind λ(e,aJ,f,_)=>(bw (!f) ((y4 ()).bind λ(g,_)=>Y (g,())) ((y3 (e,aJ,())).bind λ(h,i,j,_)=>(uw (h,i,())).bind λ(c,_)=>(us (c,j,())).bind λ(d,_)=>Y (d,())))
def wL:lr->bv gV:=λ(a,b,_)=>(B5 (b,())).bind λ(c,_)=>(y0 (a,c,())).bind λ(aJ,_)=>Y (aJ,())
def y1:lr->bv eg:=λ(a,b,_)=>(wM (a,b,())).bind λ(c,aJ,d,_)=>(bw (!d) (Y (0,bq,())) ((y3 (c,aJ,())).bind λ(e,f,_,_)=>(zd (e,f,())).bind λ(g,_)=>Y (g,bp,())))
def CR:(Z×Z×Z×bt)->bv he:=λ(a,c,b,_)=>(bw (br (a>=c)==bp) (Y (br (a<=b),())) (Y (bq,())))
def CY:hm->bv he:=λ(b,_)=>(loop (σ:=cJ) (ρ:=oQ) (λ(a,_)=>bw (br (a>0)) ((ao b a).bind λf=>(ao b (ax (a-1))).bind λg=>(ur (f,g,())).bind λ(e,_)=>bw e (Y (.inr (.inr (bq,())))) (Y (.inl (ax (a-1),())))) (Y (.inr (.inl ())))) (ax (al b-1),())).bind λc=>match c with
 |.inl _=>(Y (bp,()))
 |.inr d=>Y d
def CP:mP->bv he:=λ(a,_)=>bB (α:=bt⊕he) (bw ((al a.2.2.1 !=aP a.2.1)==bq) ((ao a.2.2.1 0).bind λm=>bw ((m !=0)==bq) ((CY (a.2.2.1,())).bind λ(l,_)=>bw ((!l)==bq) ((ao a.2.2.1 a.2.1).bind λn=>bw ((n !=al a.2.2.2.1)==bq) (bw (al a.2.2.2.1 !=al a.2.2.2.2.1) (Y (.inr (bq,()))) (Y (.inl ()))) (Y (.inr (bq,())))) (Y (.inr (bq,())))) (Y (.inr (bq,())))) (Y (.inr (bq,())))) λb=>match b with
 |.inl _=>((loop (σ:=cJ) (ρ:=oQ) (λ(e,_)=>bif br (e<a.2.1) then((ao a.2.2.1 e).bind λo=>(ao a.2.2.1 (aP e)).bind λp=>((gu o).bind λh=>(gu p).bind λi=>(g9 h i (a.2.2.2.1).length).map λ_=>(h,i)).bind λd=>(loop (σ:=nr) (ρ:=(bt⊕(cJ⊕oQ))) (λ(j,f,_)=>bif br (f<al (((a.2.2.2.1).take d.2).drop d.1)) then(bB (α:=cJ⊕(nr⊕(bt⊕(cJ⊕oQ)))) ((ao (((a.2.2.2.1).take d.2).drop d.1) f).bind λg=>bB (α:=bt⊕(cJ⊕(nr⊕(bt⊕(cJ⊕oQ))))) (bw (br (g<=j)==bq) (bw (br (g>=a.1)) (Y (.inr (.inr (.inr (.inr (.inr (.inr (bq,())))))))) (Y (.inl ()))) (Y (.inr (.inr (.inr (.inr (.inr (.inr (bq,()))))))))) λb=>match b with
 |.inl _=>(Y (.inl (g,())))
 |.inr c=>Y c) λb=>match b with
 |.inl (k,_)=>(Y (.inl (k,aP f,())))
 |.inr c=>Y c) else Y (.inr (.inl ()))) ((-1:Z),0,())).bind λb=>match b with
 |.inl _=>(Y (.inl (aP e,())))
 |.inr c=>Y c) else Y (.inr (.inl ()))) (0,())).bind λb=>match b with
 |.inl _=>(Y (bp,()))
 |.inr c=>Y c)
 |.inr c=>Y c
def GY:cJ->bv he:=λ(a,_)=>(nz (a,())).bind λ(b,_)=>Y ((!b),())
def G0:(be×bt×bt)->bv cJ:=λ(b,_,_)=>(loop (σ:=cJ) (ρ:=np) (λ(a,_)=>bw (br (a<al b)) ((ao b a).bind λf=>(GY (f,())).bind λ(e,_)=>bw e (Y (.inr (.inr (a,())))) (Y (.inl (aP a,())))) (Y (.inr (.inl ())))) (0,())).bind λc=>match c with
 |.inl _=>(Y ((-1:Z),()))
 |.inr d=>Y d
def CS:(be×bt×bt)->bv he:=λ(b,_,_)=>(G0 (b,(),())).bind λ(a,_)=>Y (br (a>=0),())
def sx:mP->bv cJ:=λ(a,_)=>bB (α:=he) ((CR (a.1,0,200,())).bind λ(b,_)=>bw ((!b)==bq) ((CR (a.2.1,0,200,())).bind λ(c,_)=>bw ((!c)==bq) (Y (br (al a.2.2.2.1>10000),())) (Y (bp,()))) (Y (bp,()))) λ(f,_)=>(bw f (Y (6,())) ((CP (a,())).bind λ(d,_)=>bw (!d) (Y (1,())) ((CS (a.2.2.2.2.1,(),())).bind λ(e,_)=>bw e (Y (4,())) (Y (0,())))))
def DG:nq->bv (be×bA×bt):=λ(h,a,_)=>(bif al h !=a then Y ([],bq,()) else((fV a a).bind λi=>(fV a a).bind λj=>(loop (σ:=(Z×be×g6×bt)) (ρ:=(hm⊕(be×bA×bt))) (λ(f,e,g,_)=>bif br (f<al h) then(bB (α:=(be×g6×bt)⊕((Z×be×g6×bt)⊕(hm⊕(be×bA×bt)))) ((ao h f).bind λd=>bB (α:=(be×g6×bt)⊕((be×g6×bt)⊕((Z×be×g6×bt)⊕(hm⊕(be×bA×bt))))) (bB (α:=(bA×be×g6×bt)) (bw (br (d<0)==bq) (bw (br (d>=a)==bq) (rd g d λs=>Y (s,e,g,())) (Y (bp,e,g,()))) (Y (bp,e,g,()))) λ(o,k,p,_)=>bw o (Y (.inr (.inr (.inr (.inr ([],bq,())))))) (Y (.inl (k,p,())))) λb=>match b with
 |.inl (l,q,_)=>(wr l d f λt=>wr q d bp λu=>Y (.inl (t,u,())))
 |.inr c=>Y c) λb=>match b with
 |.inl (m,r,_)=>(Y (.inl (aP f,m,r,())))
 |.inr c=>Y c) else Y (.inr (.inl (e,())))) (0,bJ i (0:Z),bJ j bq,())).bind λb=>match b with
 |.inl (n,_)=>(Y (n,bp,()))
 |.inr c=>Y c))
def wY:mP->bv jB:=λ(b,_)=>(loop (σ:=n6) (ρ:=jB) (λ(a,e,_)=>bw (br (a<b.2.1)) ((ao b.2.2.1 a).bind λj=>(loop (σ:=n6) (ρ:=jB) (λ(c,d,_)=>(ao b.2.2.1 (aP a)).bind λk=>bw (br (c<k)) ((ao b.2.2.2.1 c).bind λf=>(ao b.2.2.2.2.1 c).bind λg=>(cC (d.length+([(f,(a,(g,())))]).length)).bind λ_=>Y (.inl (aP c,(d++[(f,(a,(g,())))]),()))) (Y (.inr (d,())))) (j,e,())).bind λ(h,_)=>Y (.inl (aP a,h,()))) (Y (.inr (e,())))) (0,[],())).bind λ(i,_)=>Y (i,())
def GZ:jB->bv jB:=λ(a,_)=>rB a.length (Y ([],())) ((cC (([]:kP).length+a.length)).bind λ_=>Y (([]++a),()))
def wZ:((Z×(Z×cJ))×(Z×(Z×cJ))×bt)->bv cJ:=λ(a,b,_)=>(uq (a.2.1,b.2.1,())).bind λ(c,_)=>(uq (a.1,b.1,())).bind λ(aJ,_)=>(B3 ([c,aJ],())).bind λ(d,_)=>Y (d,())
def zr:(kP×Z×Z×bt×bt)->bv jB:=λ(h,e,g,_,_)=>(loop (σ:=n6) (ρ:=jB) (λ(d,f,_)=>bif br (d<g) then(loop (σ:=n6) (ρ:=jB) (λ(a,b,_)=>bB (α:=jB⊕(n6⊕jB)) (bw (br (a>e)==bp) (rd b a λn=>rd b (ax (a-1)) λo=>(wZ (n,o,())).bind λ(m,_)=>bw (br (m<0)) (Y (.inl (b,()))) (Y (.inr (.inr (b,()))))) (Y (.inr (.inr (b,()))))) λk=>match k with
 |.inl (c,_)=>(rd c (ax (a-1)) λp=>rd c a λq=>wr c a p λr=>wr r (ax (a-1)) q λs=>Y (.inl (ax (a-1),s,())))
 |.inr l=>Y l) (d,f,())).bind λ(i,_)=>Y (.inl (aP d,i,())) else Y (.inr (f,()))) (aP e,h,())).bind λ(j,_)=>Y (j,())
def C5:SQ->bv jB:=λ(h,e,a,g,_,_)=>(bw (ax (a-e)==1) bo (bw (ax (g-a)==1) ((loop (σ:=yH) (ρ:=n6) (λ(c,d,b,_)=>bw (br (c<d)) ((eJ bE (aM (ax (c+d))) 1).bind λf=>rd b a λo=>rd b (ax f) λp=>(wZ (o,p,())).bind λ(n,_)=>bw (!(br (n<0))) (Y (.inl (aP (ax f),d,b,()))) bo) (Y (.inr (c,b,())))) (e,a,h,())).bind λ(l,i,_)=>(loop (σ:=n6) (ρ:=jB) (λ(m,j,_)=>bw (br (m>l)) bo (Y (.inr (j,())))) (a,i,())).bind λ(k,_)=>Y (k,())) bo))
def G7:(kP×Z×bt×bt)->bv jB:=λ(l,a,_,_)=>(loop (σ:=yH) (ρ:=n6) (λ(e,c,h,_)=>bw (br (c<=a)) ((zr (h,e,c,(),())).bind λ(s,_)=>Y (.inl (c,ax (c+20),s,()))) (Y (.inr (e,h,())))) (0,20,l,())).bind λ(j,p,_)=>(zr (p,j,a,(),())).bind λ(q,_)=>(loop (σ:=n6) (ρ:=jB) (λ(b,f,_)=>bw (br (b<a)) ((loop (σ:=yH) (ρ:=n6) (λ(i,k,m,_)=>bw (br (k<=a)) bo (Y (.inr (i,m,())))) (0,ax (2*b),f,())).bind λ(d,g,_)=>bB (α:=jB) (bw (br (ax (d+b)<a)) ((C5 (g,d,ax (d+b),a,(),())).bind λ(r,_)=>Y (r,())) (Y (g,()))) λ(n,_)=>Y (.inl (ax (b*2),n,()))) (Y (.inr (f,())))) (20,q,())).bind λ(o,_)=>
 Y (o,())
def G5:(kP×bt×bt)->bv jB:=λ(a,_,_)=>(G7 (a,al a,(),())).bind λ(b,_)=>Y (b,())
def CQ:jB->bv jB:=λ(a,_)=>(GZ (a,())).bind λ(c,_)=>(G5 (c,(),())).bind λ(b,_)=>Y (b,())
def CO:yH->bv mP:=λ(s,e,o,_)=>(fV (aP e) (aP e)).bind λr=>(CQ (o,())).bind λ(i,_)=>(loop (σ:=(Z×c5×c5×kP×bt)) (ρ:=(c5×c5×bt)) (λ(f,k,a,l,_)=>bif br (f<al i) then rd l f λb=>(cC ((a.2.2.2.1).length+([b.1]).length)).bind λ_=>(cC ((a.2.2.2.2.1).length+([b.2.2.1]).length)).bind λ_=>(bj (((a.1,(a.2.1,(a.2.2.1,((a.2.2.2.1++[b.1]),a.2.2.2.2)))).1,((a.1,(a.2.1,(a.2.2.1,((a.2.2.2.1++[b.1]),a.2.2.2.2)))).2.1,((a.1,(a.2.1,(a.2.2.1,((a.2.2.2.1++[b.1]),a.2.2.2.2)))).2.2.1,((a.1,(a.2.1,(a.2.2.1,((a.2.2.2.1++[b.1]),a.2.2.2.2)))).2.2.2.1,(((a.1,(a.2.1,(a.2.2.1,((a.2.2.2.1++[b.1]),a.2.2.2.2)))).2.2.2.2.1++[b.2.2.1]),(a.1,(a.2.1,(a.2.2.1,((a.2.2.2.1++[b.1]),a.2.2.2.2)))).2.2.2.2.2))))).2.2.1).length (aP b.2.1)).bind λn=>(a9 ((a.1,(a.2.1,(a.2.2.1,((a.2.2.2.1++[b.1]),a.2.2.2.2)))).1,((a.1,(a.2.1,(a.2.2.1,((a.2.2.2.1++[b.1]),a.2.2.2.2)))).2.1,((a.1,(a.2.1,(a.2.2.1,((a.2.2.2.1++[b.1]),a.2.2.2.2)))).2.2.1,((a.1,(a.2.1,(a.2.2.1,((a.2.2.2.1++[b.1]),a.2.2.2.2)))).2.2.2.1,(((a.1,(a.2.1,(a.2.2.1,((a.2.2.2.1++[b.1]),a.2.2.2.2)))).2.2.2.2.1++[b.2.2.1]),(a.1,(a.2.1,(a.2.2.1,((a.2.2.2.1++[b.1]),a.2.2.2.2)))).2.2.2.2.2))))).2.2.1 n λm=>Y m).bind λu=>
 (bj (((a.1,(a.2.1,(a.2.2.1,((a.2.2.2.1++[b.1]),a.2.2.2.2)))).1,((a.1,(a.2.1,(a.2.2.1,((a.2.2.2.1++[b.1]),a.2.2.2.2)))).2.1,((a.1,(a.2.1,(a.2.2.1,((a.2.2.2.1++[b.1]),a.2.2.2.2)))).2.2.1,((a.1,(a.2.1,(a.2.2.1,((a.2.2.2.1++[b.1]),a.2.2.2.2)))).2.2.2.1,(((a.1,(a.2.1,(a.2.2.1,((a.2.2.2.1++[b.1]),a.2.2.2.2)))).2.2.2.2.1++[b.2.2.1]),(a.1,(a.2.1,(a.2.2.1,((a.2.2.2.1++[b.1]),a.2.2.2.2)))).2.2.2.2.2))))).2.2.1).length (aP b.2.1)).bind λg=>((((a9 ((a.1,(a.2.1,(a.2.2.1,((a.2.2.2.1++[b.1]),a.2.2.2.2)))).1,((a.1,(a.2.1,(a.2.2.1,((a.2.2.2.1++[b.1]),a.2.2.2.2)))).2.1,((a.1,(a.2.1,(a.2.2.1,((a.2.2.2.1++[b.1]),a.2.2.2.2)))).2.2.1,((a.1,(a.2.1,(a.2.2.1,((a.2.2.2.1++[b.1]),a.2.2.2.2)))).2.2.2.1,(((a.1,(a.2.1,(a.2.2.1,((a.2.2.2.1++[b.1]),a.2.2.2.2)))).2.2.2.2.1++[b.2.2.1]),(a.1,(a.2.1,(a.2.2.1,((a.2.2.2.1++[b.1]),a.2.2.2.2)))).2.2.2.2.2))))).2.2.1 g λ_=>Y ((((a.1,(a.2.1,(a.2.2.1,((a.2.2.2.1++[b.1]),a.2.2.2.2)))).1,((a.1,(a.2.1,(a.2.2.1,((a.2.2.2.1++[b.1]),a.2.2.2.2)))).2.1,((a.1,(a.2.1,(a.2.2.1,((a.2.2.2.1++[b.1]),a.2.2.2.2)))).2.2.1,((a.1,(a.2.1,(a.2.2.1,((a.2.2.2.1++[b.1]),a.2.2.2.2)))).2.2.2.1,(((a.1,(a.2.1,(a.2.2.1,((a.2.2.2.1++[b.1]),a.2.2.2.2)))).2.2.2.2.1++[b.2.2.1]),(a.1,(a.2.1,(a.2.2.1,((a.2.2.2.1++[b.1]),a.2.2.2.2)))).2.2.2.2.2))))).2.2.1).set g (aP u))).map λx=>(x,((a.1,(a.2.1,(a.2.2.1,((a.2.2.2.1++[b.1]),a.2.2.2.2)))).1,((a.1,(a.2.1,(a.2.2.1,((a.2.2.2.1++[b.1]),a.2.2.2.2)))).2.1,((a.1,(a.2.1,(a.2.2.1,((a.2.2.2.1++[b.1]),a.2.2.2.2)))).2.2.1,((a.1,(a.2.1,(a.2.2.1,((a.2.2.2.1++[b.1]),a.2.2.2.2)))).2.2.2.1,(((a.1,(a.2.1,(a.2.2.1,((a.2.2.2.1++[b.1]),a.2.2.2.2)))).2.2.2.2.1++[b.2.2.1]),(a.1,(a.2.1,(a.2.2.1,((a.2.2.2.1++[b.1]),a.2.2.2.2)))).2.2.2.2.2))))).2.2.2)).map λy=>(((a.1,(a.2.1,(a.2.2.1,((a.2.2.2.1++[b.1]),a.2.2.2.2)))).1,((a.1,(a.2.1,(a.2.2.1,((a.2.2.2.1++[b.1]),a.2.2.2.2)))).2.1,((a.1,(a.2.1,(a.2.2.1,((a.2.2.2.1++[b.1]),a.2.2.2.2)))).2.2.1,((a.1,(a.2.1,(a.2.2.1,((a.2.2.2.1++[b.1]),a.2.2.2.2)))).2.2.2.1,(((a.1,(a.2.1,(a.2.2.1,((a.2.2.2.1++[b.1]),a.2.2.2.2)))).2.2.2.2.1++[b.2.2.1]),(a.1,(a.2.1,(a.2.2.1,((a.2.2.2.1++[b.1]),a.2.2.2.2)))).2.2.2.2.2))))).2.1,y)).map λz=>(((a.1,(a.2.1,(a.2.2.1,((a.2.2.2.1++[b.1]),a.2.2.2.2)))).1,((a.1,(a.2.1,(a.2.2.1,((a.2.2.2.1++[b.1]),a.2.2.2.2)))).2.1,((a.1,(a.2.1,(a.2.2.1,((a.2.2.2.1++[b.1]),a.2.2.2.2)))).2.2.1,((a.1,(a.2.1,(a.2.2.1,((a.2.2.2.1++[b.1]),a.2.2.2.2)))).2.2.2.1,(((a.1,(a.2.1,(a.2.2.1,((a.2.2.2.1++[b.1]),a.2.2.2.2)))).2.2.2.2.1++[b.2.2.1]),(a.1,(a.2.1,(a.2.2.1,((a.2.2.2.1++[b.1]),a.2.2.2.2)))).2.2.2.2.2))))).1,z)).bind λA=>
 Y (.inl (aP f,k,A,l,())) else Y (.inr (k,a,()))) (0,((0:Z),((0:Z),([],([],([],()))))),(s,(e,(bJ r (0:Z),(([]:be),(([]:be),()))))),i,())).bind λ(t,p,_)=>(loop (σ:=(Z×c5×c5×bt)) (ρ:=(c5×c5×bt)) (λ(d,j,c,_)=>bw (br (d<e)) (rd c.2.2.1 (aP d) λv=>rd c.2.2.1 d λw=>(bj (c.2.2.1).length (aP d)).bind λh=>((((a9 c.2.2.1 h λ_=>Y ((c.2.2.1).set h (ax (v+w)))).map λB=>(B,c.2.2.2)).map λC=>(c.2.1,C)).map λD=>(c.1,D)).bind λE=>Y (.inl (aP d,j,E,()))) (Y (.inr (j,c,())))) (0,t,p,())).bind λ(_,q,_)=>Y (q,())
def CN:mP->bv (c5×Z×bt):=λ(a,_)=>(sx (a,())).bind λ(aJ,_)=>(bw (aJ !=0) (Y (((0:Z),((0:Z),(([]:be),(([]:be),(([]:be),()))))),aJ,())) ((wY (a,())).bind λ(g,_)=>(loop (σ:=(Z×c5×kP×kP×bt)) (ρ:=(c5×kP×bt)) (λ(d,e,b,f,_)=>bw (br (d<al g)) (bB (α:=(c5×kP×kP×bt)) (rd f d λc=>bw (br (c.1>=c.2.1)) ((cC (b.length+([c]).length)).bind λ_=>Y (e,(b++[c]),f,())) (Y (e,b,f,()))) λ(k,h,l,_)=>Y (.inl (aP d,k,h,l,()))) (Y (.inr (e,b,())))) (0,((0:Z),((0:Z),([],([],([],()))))),[],g,())).bind λ(_,i,_)=>(CO (a.1,a.2.1,i,())).bind λ(j,_)=>Y (j,0,())))
def CM:mP->bv jB:=λ(a,_)=>(sx (a,())).bind λ(aJ,_)=>(bw (aJ !=0) (Y ([],())) ((wY (a,())).bind λ(b,_)=>Y (b,())))
def y8:mP->bv ((bm be×bt)×Z×bt):=λ(a,_)=>(sx (a,())).bind λ(c,_)=>(bw (c !=0) (Y ((([]:bm be),()),c,())) (bw (a.1 !=a.2.1) (Y ((([]:bm be),()),5,())) ((y9 (a.2.1,())).bind λ(j,_)=>(CM (a,())).bind λ(aJ,_)=>(loop (σ:=(Z×(bm be×bt)×bm g6×kP×bt)) (ρ:=((bm be×bt)×bm g6×bt)) (λ(b,d,e,f,_)=>bw (br (b<al aJ)) (rd f b λg=>(zc (e,g.1,g.2.1,())).bind λ(h,_)=>Y (.inl (aP b,d,h,f,()))) (Y (.inr (d,e,())))) (0,([],()),j,aJ,())).bind λ(_,k,_)=>(zb (k,())).bind λ(i,_)=>Y (i,0,()))))
def sI:(c5×be×bt)->bv (bv qR×Z×bt):=λ(a,q,_)=>(sx (a,())).bind λ(r,_)=>(bif r !=0 then Y (bo,r,()) else bif a.1 !=a.2.1 then Y (bo,5,()) else(DG (q,a.2.1,())).bind λ(s,E,_)=>bif !E then Y (bo,90,()) else(CN (a,())).bind λ(F,_,_)=>(y8 (F,())).bind λ(G,_,_)=>(za (G,q,())).bind λ(t,_,_)=>(fV a.2.1 a.2.1).bind λp=>(loop (σ:=(Z×c5×qR×bt)) (ρ:=(c5×qR×bt)) (λ(j,k,c,_)=>bw (br (j<al ((a.2.1,(t,(bJ p (bo:bv (bm (Z×fk)×X)),()))).2.2.1))) ((bj (c.2.2.1).length j).bind λn=>((((a9 c.2.2.1 n λ_=>Y ((c.2.2.1).set n (Y ([],0)))).map λL=>(L,c.2.2.2)).map λM=>(c.2.1,M)).map λN=>(c.1,N)).bind λO=>Y (.inl (aP j,k,O,()))) (Y (.inr (k,c,())))) (0,a,(a.2.1,(t,(bJ p (bo:bv (bm (Z×fk)×X)),()))),())).bind λ(l,z,_)=>
 (loop (σ:=(Z×c5×qR×bt)) (ρ:=(qR×bt)) (λ(e,m,o,_)=>bif br (e<l.2.1) then(ao m.2.2.1 e).bind λI=>(loop (σ:=(Z×c5×qR×bt)) (ρ:=(c5×qR×bt)) (λ(f,d,b,_)=>(ao d.2.2.1 (aP e)).bind λJ=>bw (br (f<J)) (bB (α:=(c5×qR×bt)) ((ao d.2.2.2.1 f).bind λu=>bw (br (u>=e)) ((ao s u).bind λg=>(ao s e).bind λh=>(bj (b.2.2.1).length (if h<g then h else g)).bind λi=>(ao d.2.2.2.2.1 f).bind λK=>(jT (K,())).bind λ(H,_)=>(a9 b.2.2.1 i λx=>Y x).bind λC=>(xJ C (if h>g then h else g) H).bind λD=>((((a9 b.2.2.1 i λ_=>Y ((b.2.2.1).set i D)).map λP=>(P,b.2.2.2)).map λQ=>(b.2.1,Q)).map λR=>(b.1,R)).bind λS=>Y (d,S,())) (Y (d,b,()))) λ(v,A,_)=>Y (.inl (aP f,v,A,()))) (Y (.inr (d,b,())))) (I,m,o,())).bind λ(w,B,_)=>
 Y (.inl (aP e,w,B,())) else Y (.inr (o,()))) (0,l,z,())).bind λ(y,_)=>Y (Y y,0,()))
def xd:(bv qR×Z×Z×bt)->bv gV:=λ(c,a,b,_)=>c.bind λd=>(ao d.2.2.1 (if b<a then b else a)).bind λe=>Y (((mu (α:=fk) e (if b>a then b else a)).getD (bq,((bq,([],())),((0:Z),())))),())
def zx:jQ->bv he:=λ(b,c,_)=>(bif al b !=al c then Y (bq,()) else((loop (σ:=cJ) (ρ:=oQ) (λ(a,_)=>bw (br (a<al b)) ((ao b a).bind λf=>(ao c a).bind λg=>bw (f !=g) (Y (.inr (.inr (bq,())))) (Y (.inl (aP a,())))) (Y (.inr (.inl ())))) (0,())).bind λd=>match d with
 |.inl _=>(Y (bp,()))
 |.inr e=>Y e))
def sy:nr->bv cJ:=λ(a,b,_)=>(iM (aM a) (aM b)).bind λc=>Y (ax c,())
def uF:nq->bv cJ:=λ(b,a,_)=>bB (α:=cJ) (bw (br (al b>0)) ((sy (a,al b,())).bind λ(e,_)=>(ao b e).bind λf=>Y (tC bE (aM (aM (aP a)*11400714819323198485)) f,())) (Y (aM (aM (aP a)*11400714819323198485),()))) λ(c,_)=>(eJ bE c 31).bind λd=>(eJ bE (aM (tC bE c d*13787848793156543929)) 29).bind λg=>Y (tC bE (aM (tC bE c d*13787848793156543929)) g,())
def G8:cJ->bv cJ:=λ(b,_)=>(iM b 19).bind λc=>(Dn (ax (ax c-9),0,())).bind λ(a,_)=>Y (a,())
def uE:nr->bv cJ:=λ(a,e,_)=>(sy (e,4,())).bind λ(b,_)=>(bw (b==1) ((eJ bE a 52).bind λf=>(h0 bE (aM (1019+eT bE f 7)) 52).bind λg=>Y (gk bE (eT bE a 9227875636482146303) g,())) (bw (b==2) ((eJ bE a 8).bind λh=>(iM h 81).bind λi=>(h0 bE (aM (983+i)) 52).bind λj=>Y (gk bE (eT bE a 9225623836668461056) j,())) (bw (b==3) ((q3 (a,())).bind λ(d,_)=>bw (!d) (Y (0,())) (Y (a,()))) ((G8 (a,())).bind λ(c,_)=>Y (c,())))))
def uD:(be×Z×Z×Z×bt)->bv mP:=λ(n,e,g,q,_)=>(loop (σ:=(Z×c5×c5×bt)) (ρ:=(c5×c5×bt)) (λ(d,k,h,_)=>bif br (d<g) then(loop (σ:=(Z×c5×c5×bt)) (ρ:=(c5×c5×bt)) (λ(b,f,a,_)=>bif br (b<e) then bB (α:=(c5×c5×bt)) ((uF (n,ax (ax (100+ax (d*e))+b),())).bind λ(i,_)=>(eJ bE i 40).bind λr=>(iM r 3).bind λs=>bif br (s>0) then(cC ((a.2.2.2.1).length+([b]).length)).bind λ_=>(uE (i,q,())).bind λ(j,_)=>(cC (((a.1,(a.2.1,(a.2.2.1,((a.2.2.2.1++[b]),a.2.2.2.2)))).2.2.2.2.1).length+([j]).length)).bind λ_=>Y (f,((a.1,(a.2.1,(a.2.2.1,((a.2.2.2.1++[b]),a.2.2.2.2)))).1,((a.1,(a.2.1,(a.2.2.1,((a.2.2.2.1++[b]),a.2.2.2.2)))).2.1,((a.1,(a.2.1,(a.2.2.1,((a.2.2.2.1++[b]),a.2.2.2.2)))).2.2.1,((a.1,(a.2.1,(a.2.2.1,((a.2.2.2.1++[b]),a.2.2.2.2)))).2.2.2.1,(((a.1,(a.2.1,(a.2.2.1,((a.2.2.2.1++[b]),a.2.2.2.2)))).2.2.2.2.1++[j]),(a.1,(a.2.1,(a.2.2.1,((a.2.2.2.1++[b]),a.2.2.2.2)))).2.2.2.2.2))))),()) else
 Y (f,a,())) λ(o,l,_)=>Y (.inl (aP b,o,l,())) else Y (.inr (f,a,()))) (0,k,h,())).bind λ(p,c,_)=>(cC ((c.2.2.1).length+([al c.2.2.2.1]).length)).bind λ_=>Y (.inl (aP d,p,(c.1,(c.2.1,((c.2.2.1++[al c.2.2.2.1]),c.2.2.2))),())) else Y (.inr (k,h,()))) (0,((0:Z),((0:Z),([],([],([],()))))),(e,(g,([0],(([]:be),(([]:be),()))))),())).bind λ(_,m,_)=>Y (m,())
def Dq:hm->bv he:=λ(b,_)=>(loop (σ:=cJ) (ρ:=oQ) (λ(a,_)=>bw (br (a<al b)) ((ao b a).bind λe=>(q3 (e,())).bind λ(aJ,_)=>bw (!aJ) (Y (.inr (.inr (bq,())))) (Y (.inl (aP a,())))) (Y (.inr (.inl ())))) (0,())).bind λc=>match c with
 |.inl _=>(Y (bp,()))
 |.inr d=>Y d
def q5:mP->bv cJ:=λ(a,_)=>bB (α:=bt⊕cJ) (bw (br (a.1<0)==bq) (bw (br (a.1>200)==bq) (bw (br (a.2.1<0)==bq) (bw (br (a.2.1>200)==bq) (bw (br (al a.2.2.2.1>10000)) (Y (.inr (6,()))) (Y (.inl ()))) (Y (.inr (6,())))) (Y (.inr (6,())))) (Y (.inr (6,())))) (Y (.inr (6,())))) λb=>match b with
 |.inl _=>(bB (α:=bt⊕cJ) (bw ((al a.2.2.2.2.1 !=al a.2.2.2.1)==bq) (bw ((al a.2.2.1 !=aP a.2.1)==bq) ((ao a.2.2.1 0).bind λn=>bw ((n !=0)==bq) ((ao a.2.2.1 a.2.1).bind λo=>bw (o !=al a.2.2.2.1) (Y (.inr (1,()))) (Y (.inl ()))) (Y (.inr (1,())))) (Y (.inr (1,())))) (Y (.inr (1,())))) λb=>match b with
 |.inl _=>((loop (σ:=cJ) (ρ:=np) (λ(f,_)=>bw (br (f<a.2.1)) ((ao a.2.2.1 f).bind λp=>(ao a.2.2.1 (aP f)).bind λq=>bw (br (p>q)) (Y (.inr (.inr (1,())))) (Y (.inl (aP f,())))) (Y (.inr (.inl ())))) (0,())).bind λb=>match b with
 |.inl _=>((loop (σ:=cJ) (ρ:=np) (λ(e,_)=>bif br (e<a.2.1) then((ao a.2.2.1 e).bind λr=>(loop (σ:=cJ) (ρ:=(bt⊕(cJ⊕np))) (λ(d,_)=>(ao a.2.2.1 (aP e)).bind λh=>bif br (d<h) then(bB (α:=bt⊕(cJ⊕(bt⊕(cJ⊕np)))) ((ao a.2.2.2.1 d).bind λi=>bw (br (i<0)==bq) ((ao a.2.2.2.1 d).bind λj=>bw (br (j>=a.1)==bq) ((ao a.2.2.1 e).bind λk=>bw (br (d>k)==bp) ((ao a.2.2.2.1 d).bind λl=>(ao a.2.2.2.1 (ax (d-1))).bind λm=>bw (br (l<=m)) (Y (.inr (.inr (.inr (.inr (.inr (1,()))))))) (Y (.inl ()))) (Y (.inl ()))) (Y (.inr (.inr (.inr (.inr (.inr (1,())))))))) (Y (.inr (.inr (.inr (.inr (.inr (1,())))))))) λb=>match b with
 |.inl _=>(Y (.inl (aP d,())))
 |.inr c=>Y c) else Y (.inr (.inl ()))) (r,())).bind λb=>match b with
 |.inl _=>(Y (.inl (aP e,())))
 |.inr c=>Y c) else Y (.inr (.inl ()))) (0,())).bind λb=>match b with
 |.inl _=>((Dq (a.2.2.2.2.1,())).bind λ(g,_)=>bw (!g) (Y (4,())) (Y (0,())))
 |.inr c=>Y c)
 |.inr c=>Y c)
 |.inr c=>Y c)
 |.inr c=>Y c
def sF:(c5×Z×Z×bt)->bv cJ:=λ(a,f,b,_)=>bB (α:=bt⊕cJ) ((q5 (a,())).bind λ(aJ,_)=>bw ((aJ !=0)==bq) (bw (br (b<0)==bq) (bw (br (b>=a.2.1)) (Y (.inr (0,()))) (Y (.inl ()))) (Y (.inr (0,())))) (Y (.inr (0,())))) λd=>match d with
 |.inl _=>((ao a.2.2.1 b).bind λg=>(loop (σ:=cJ) (ρ:=np) (λ(c,_)=>(ao a.2.2.1 (aP b)).bind λh=>bw (br (c<h)) ((ao a.2.2.2.1 c).bind λi=>bw (i==f) ((ao a.2.2.2.2.1 c).bind λj=>Y (.inr (.inr (j,())))) (Y (.inl (aP c,())))) (Y (.inr (.inl ())))) (g,())).bind λd=>match d with
 |.inl _=>(Y (0,()))
 |.inr e=>Y e)
 |.inr e=>Y e
def zH:(c5×Z×Z×bt)->bv he:=λ(a,c,b,_)=>bB (α:=bt⊕he) (bw (br (c<0)==bq) (bw (br (c>=a.1)==bq) (bw (br (b<0)==bq) (bw (br (b>=a.2.1)) (Y (.inr (bq,()))) (Y (.inl ()))) (Y (.inr (bq,())))) (Y (.inr (bq,())))) (Y (.inr (bq,())))) λe=>match e with
 |.inl _=>((ao a.2.2.1 b).bind λg=>(loop (σ:=cJ) (ρ:=oQ) (λ(d,_)=>(ao a.2.2.1 (aP b)).bind λh=>bw (br (d<h)) ((ao a.2.2.2.1 d).bind λi=>bw (i==c) (Y (.inr (.inr (bp,())))) (Y (.inl (aP d,())))) (Y (.inr (.inl ())))) (g,())).bind λe=>match e with
 |.inl _=>(Y (bq,()))
 |.inr f=>Y f)
 |.inr f=>Y f
def zt:(be×Z×Z×bt)->bv mP:=λ(G,f,N,_)=>(sy (N,3,())).bind λ(aJ,_)=>(uD (G,f,f,aJ,())).bind λ(F,_)=>(loop (σ:=(Z×c5×c5×c5×bt)) (ρ:=(c5×c5×bt)) (λ(h,r,w,n,_)=>bif br (h<f) then(loop (σ:=(Z×c5×c5×c5×bt)) (ρ:=(c5×c5×c5×bt)) (λ(c,j,g,a,_)=>bif br (c<f) then bB (α:=(c5×c5×c5×bt)) (bif c==h then(uH (1,())).bind λ(A,_)=>(loop (σ:=(Z×c5×c5×c5×BJ×bt)) (ρ:=(c5×c5×c5×BJ×bt)) (λ(d,m,i,l,k,_)=>bif br (d<f) then bB (α:=(c5×c5×c5×BJ×bt)) (bw (d !=c) ((sF (i,(if d>c then d else c),(if d<c then d else c),())).bind λ(B,_)=>(ku (B,())).bind λ(C,_)=>(zD (C,())).bind λ(o,_)=>(cC (k.length+([o]).length)).bind λ_=>Y (m,i,l,(k++[o]),())) (Y (m,i,l,k,()))) λ(H,s,x,I,_)=>
 Y (.inl (aP d,H,s,x,I,())) else Y (.inr (m,i,l,k,()))) (0,j,g,a,[A],())).bind λ(J,t,b,K,_)=>(cC ((b.2.2.2.1).length+([c]).length)).bind λ_=>(Dl (K,())).bind λ(D,_)=>(w5 (D,2,())).bind λ(p,_)=>(cC (((b.1,(b.2.1,(b.2.2.1,((b.2.2.2.1++[c]),b.2.2.2.2)))).2.2.2.2.1).length+([p]).length)).bind λ_=>Y (J,t,((b.1,(b.2.1,(b.2.2.1,((b.2.2.2.1++[c]),b.2.2.2.2)))).1,((b.1,(b.2.1,(b.2.2.1,((b.2.2.2.1++[c]),b.2.2.2.2)))).2.1,((b.1,(b.2.1,(b.2.2.1,((b.2.2.2.1++[c]),b.2.2.2.2)))).2.2.1,((b.1,(b.2.1,(b.2.2.1,((b.2.2.2.1++[c]),b.2.2.2.2)))).2.2.2.1,(((b.1,(b.2.1,(b.2.2.1,((b.2.2.2.1++[c]),b.2.2.2.2)))).2.2.2.2.1++[p]),(b.1,(b.2.1,(b.2.2.1,((b.2.2.2.1++[c]),b.2.2.2.2)))).2.2.2.2.2))))),()) else(zH (g,c,h,())).bind λ(E,_)=>bif E then(cC ((a.2.2.2.1).length+([c]).length)).bind λ_=>(sF (g,c,h,())).bind λ(q,_)=>
 (cC (((a.1,(a.2.1,(a.2.2.1,((a.2.2.2.1++[c]),a.2.2.2.2)))).2.2.2.2.1).length+([q]).length)).bind λ_=>Y (j,g,((a.1,(a.2.1,(a.2.2.1,((a.2.2.2.1++[c]),a.2.2.2.2)))).1,((a.1,(a.2.1,(a.2.2.1,((a.2.2.2.1++[c]),a.2.2.2.2)))).2.1,((a.1,(a.2.1,(a.2.2.1,((a.2.2.2.1++[c]),a.2.2.2.2)))).2.2.1,((a.1,(a.2.1,(a.2.2.1,((a.2.2.2.1++[c]),a.2.2.2.2)))).2.2.2.1,(((a.1,(a.2.1,(a.2.2.1,((a.2.2.2.1++[c]),a.2.2.2.2)))).2.2.2.2.1++[q]),(a.1,(a.2.1,(a.2.2.1,((a.2.2.2.1++[c]),a.2.2.2.2)))).2.2.2.2.2))))),()) else Y (j,g,a,())) λ(L,u,y,_)=>Y (.inl (aP c,L,u,y,())) else Y (.inr (j,g,a,()))) (0,r,w,n,())).bind λ(M,v,e,_)=>(cC ((e.2.2.1).length+([al e.2.2.2.1]).length)).bind λ_=>Y (.inl (aP h,M,v,(e.1,(e.2.1,((e.2.2.1++[al e.2.2.2.1]),e.2.2.2))),())) else Y (.inr (r,n,()))) (0,((0:Z),((0:Z),([],([],([],()))))),F,(f,(f,([0],(([]:be),(([]:be),()))))),())).bind λ(_,z,_)=>
 Y (z,())
def zu:nq->bv hm:=λ(m,j,_)=>(loop (σ:=nq) (ρ:=hm) (λ(a,c,_)=>bw (br (c<j)) ((uF (m,ax (700+c),())).bind λ(l,_)=>(eJ bE l 1).bind λn=>(sy (ax n,aP c,())).bind λ(i,_)=>((Y (0)).bind λg=>(gu i).bind λh=>(g9 g h a.length).map λ_=>(g,h)).bind λb=>(cC (([]:be).length+((a.take b.2).drop b.1).length)).bind λ_=>(cC (([]++((a.take b.2).drop b.1)).length+([c]).length)).bind λ_=>((gu i).bind λe=>(Y a.length).bind λf=>(g9 e f a.length).map λ_=>(e,f)).bind λd=>(cC ((([]++((a.take b.2).drop b.1))++[c]).length+((a.take d.2).drop d.1).length)).bind λ_=>Y (.inl (((([]++((a.take b.2).drop b.1))++[c])++((a.take d.2).drop d.1)),aP c,()))) (Y (.inr (a,())))) ([],0,())).bind λ(k,_)=>Y (k,())
def Dy:nq->bv he:=λ(b,c,_)=>(bif al b !=c then Y (bq,()) else((fV c c).bind λg=>(loop (σ:=(Z×g6×bt)) (ρ:=oQ) (λ(a,f,_)=>bif br (a<c) then(bB (α:=(g6×bt)⊕((Z×g6×bt)⊕oQ)) (bB (α:=(g6×bt)⊕((g6×bt)⊕((Z×g6×bt)⊕oQ))) ((ao b a).bind λl=>bw (br (l<0)==bq) ((ao b a).bind λm=>bw (br (m>=c)==bq) ((ao b a).bind λn=>rd f n λj=>bw j (Y (.inr (.inr (.inr (.inr (bq,())))))) (Y (.inl (f,())))) (Y (.inr (.inr (.inr (.inr (bq,()))))))) (Y (.inr (.inr (.inr (.inr (bq,()))))))) λd=>match d with
 |.inl (h,_)=>((ao b a).bind λk=>wr h k bp λo=>Y (.inl (o,())))
 |.inr e=>Y e) λd=>match d with
 |.inl (i,_)=>(Y (.inl (aP a,i,())))
 |.inr e=>Y e) else Y (.inr (.inl ()))) (0,bJ g bq,())).bind λd=>match d with
 |.inl _=>(Y (bp,()))
 |.inr e=>Y e))
def Dz:(c5×be×bt)->bv cJ:=λ(a,c,_)=>(q5 (a,())).bind λ(b,_)=>(bw (b !=0) (Y (b,())) (bw (a.1 !=a.2.1) (Y (5,())) ((Dy (c,a.1,())).bind λ(aJ,_)=>bw (!aJ) (Y (90,())) (Y (0,())))))
def zG:mP->bv jB:=λ(b,_)=>(q5 (b,())).bind λ(j,_)=>(bw (j !=0) (Y ([],())) ((loop (σ:=n6) (ρ:=jB) (λ(a,e,_)=>bw (br (a<b.2.1)) ((ao b.2.2.1 a).bind λk=>(loop (σ:=n6) (ρ:=jB) (λ(c,d,_)=>(ao b.2.2.1 (aP a)).bind λl=>bw (br (c<l)) ((ao b.2.2.2.1 c).bind λf=>(ao b.2.2.2.2.1 c).bind λg=>(cC (d.length+([(f,(a,(g,())))]).length)).bind λ_=>Y (.inl (aP c,(d++[(f,(a,(g,())))]),()))) (Y (.inr (d,())))) (k,e,())).bind λ(h,_)=>Y (.inl (aP a,h,()))) (Y (.inr (e,())))) (0,[],())).bind λ(i,_)=>Y (i,())))
def Dr:yH->bv mP:=λ(d,g,h,_)=>(fV (ax (d*g)) (ax (d*g))).bind λy=>(loop (σ:=(Z×c5×c5×be×bt)) (ρ:=(c5×c5×be×bt)) (λ(e,o,m,k,_)=>bw (br (e<al h)) ((ao h e).bind λD=>(ao h e).bind λC=>wr k (ax (ax (D.2.1*d)+C.1)) (aP e) λE=>Y (.inl (aP e,o,m,E,()))) (Y (.inr (o,m,k,())))) (0,((0:Z),((0:Z),([],([],([],()))))),(d,(g,([0],(([]:be),(([]:be),()))))),bJ y (0:Z),())).bind λ(z,v,r,_)=>(loop (σ:=(Z×c5×c5×be×bt)) (ρ:=(c5×c5×bt)) (λ(i,n,l,s,_)=>bif br (i<g) then(loop (σ:=(Z×c5×c5×be×bt)) (ρ:=(c5×c5×be×bt)) (λ(b,j,a,f,_)=>bif br (b<d) then bB (α:=(c5×c5×be×bt)) (rd f (ax (ax (i*d)+b)) λp=>bif br (p>0) then(cC ((a.2.2.2.1).length+([b]).length)).bind λ_=>(ao h (ax (p-1))).bind λq=>
 (cC (((a.1,(a.2.1,(a.2.2.1,((a.2.2.2.1++[b]),a.2.2.2.2)))).2.2.2.2.1).length+([q.2.2.1]).length)).bind λ_=>Y (j,((a.1,(a.2.1,(a.2.2.1,((a.2.2.2.1++[b]),a.2.2.2.2)))).1,((a.1,(a.2.1,(a.2.2.1,((a.2.2.2.1++[b]),a.2.2.2.2)))).2.1,((a.1,(a.2.1,(a.2.2.1,((a.2.2.2.1++[b]),a.2.2.2.2)))).2.2.1,((a.1,(a.2.1,(a.2.2.1,((a.2.2.2.1++[b]),a.2.2.2.2)))).2.2.2.1,(((a.1,(a.2.1,(a.2.2.1,((a.2.2.2.1++[b]),a.2.2.2.2)))).2.2.2.2.1++[q.2.2.1]),(a.1,(a.2.1,(a.2.2.1,((a.2.2.2.1++[b]),a.2.2.2.2)))).2.2.2.2.2))))),f,()) else Y (j,a,f,())) λ(A,w,t,_)=>Y (.inl (aP b,A,w,t,())) else Y (.inr (j,a,f,()))) (0,n,l,s,())).bind λ(B,c,u,_)=>(cC ((c.2.2.1).length+([al c.2.2.2.1]).length)).bind λ_=>Y (.inl (aP i,B,(c.1,(c.2.1,((c.2.2.1++[al c.2.2.2.1]),c.2.2.2))),u,())) else Y (.inr (n,l,()))) (0,z,v,r,())).bind λ(_,x,_)=>
 Y (x,())
def sG:mP->bv (c5×Z×bt):=λ(b,_)=>(q5 (b,())).bind λ(aJ,_)=>(bw (aJ !=0) (Y (((0:Z),((0:Z),(([]:be),(([]:be),(([]:be),()))))),aJ,())) ((zG (b,())).bind λ(d,_)=>(loop (σ:=(Z×c5×kP×bt)) (ρ:=(c5×kP×bt)) (λ(a,e,c,_)=>bw (br (a<al d)) (bB (α:=(c5×kP×bt)) ((ao d a).bind λl=>(ao d a).bind λk=>bw (br (l.1>=k.2.1)) ((ao d a).bind λf=>(cC (c.length+([f]).length)).bind λ_=>Y (e,(c++[f]),())) (Y (e,c,()))) λ(j,g,_)=>Y (.inl (aP a,j,g,()))) (Y (.inr (e,c,())))) (0,((0:Z),((0:Z),([],([],([],()))))),[],())).bind λ(_,h,_)=>(Dr (b.1,b.2.1,h,())).bind λ(i,_)=>Y (i,0,())))
def sH:mP->bv ((bm be×bt)×Z×bt):=λ(a,_)=>(q5 (a,())).bind λ(g,_)=>(bw (g !=0) (Y ((([]:bm be),()),g,())) (bw (a.1 !=a.2.1) (Y ((([]:bm be),()),5,())) ((zK (a.1,())).bind λ(l,_)=>(zG (a,())).bind λ(aJ,_)=>(loop (σ:=(Z×(bm be×bt)×bm g6×bt)) (ρ:=((bm be×bt)×bm g6×bt)) (λ(c,h,b,_)=>bw (br (c<al aJ)) ((ao aJ c).bind λo=>(bj b.length o.1).bind λd=>(ao aJ c).bind λn=>((a9 b d λi=>Y i).bind λj=>bj j.length n.2.1).bind λf=>(a9 b d λe=>(a9 e f λ_=>Y (e.set f bp)).map λp=>b.set d p).bind λq=>Y (.inl (aP c,h,q,()))) (Y (.inr (h,b,())))) (0,([],()),l,())).bind λ(_,m,_)=>(zI (m,())).bind λ(k,_)=>Y (k,0,()))))
def Dx:(c5×be×bt)->bv ((bm be×bt)×bt):=λ(a,b,_)=>(sG (a,())).bind λ(c,_,_)=>(sH (c,())).bind λ(d,_,_)=>(q6 (d,b,())).bind λ(e,_,_)=>Y (e,())
def w8:(c5×be×Z×Z×bt)->bv gV:=λ(d,c,e,f,_)=>(ao c e).bind λa=>(ao c f).bind λb=>(sF (d,(if b>a then b else a),(if b<a then b else a),())).bind λ(g,_)=>(ku (g,())).bind λ(h,_)=>Y (h,())
def zQ:nr->bv gV:=λ(a,b,_)=>(ku (a,())).bind λ(c,_)=>(ku (b,())).bind λ(aJ,_)=>(j8 (c,aJ,())).bind λ(d,_)=>Y (d,())
def Dw:cJ->bv he:=λ(a,_)=>(bw ((a==0)==bq) (Y ((a==9223372036854775808),())) (Y (bp,())))
def w7:lr->bv cJ:=λ(a,b,_)=>(Dp (a,b,0,())).bind λ(c,_)=>Y (c,())
def zP:lr->bv he:=λ(a,b,_)=>(Dg (a,b,())).bind λ(c,_,_)=>Y (br (c<0),())
def uC:(c5×be×be×bt)->bv (iu×bt):=λ(O,fl,ft,_)=>(sG (O,())).bind λ(aJ,_,_)=>(sH (aJ,())).bind λ(fp,_,_)=>(q6 (fp,fl,())).bind λ(fs,_,_)=>(zN (fs,())).bind λ(h,_,_)=>(loop (σ:=(Z×iu×bm g6×bt)) (ρ:=j4) (λ(b,y,s,_)=>bif br (b<al h) then bB (α:=j4) (bB (α:=j4) (bB (α:=(bA×iu×bm g6×bt)) (bw ((b==0)==bq) ((uF (ft,ax (900+b),())).bind λ(fn,_)=>(eJ bE fn 7).bind λf5=>(iM f5 3).bind λf6=>Y (br (f6>0),y,s,())) (Y (bp,y,s,()))) λ(fz,z,t,_)=>bif fz then(cC (z.length+([(b,(aP b,(([]:be),((-1:Z),()))))]).length)).bind λ_=>(fV (al h) (al h)).bind λN=>(cC (t.length+([bJ N bq]).length)).bind λ_=>Y ((z++[(b,(aP b,(([]:be),((-1:Z),()))))]),(t++[bJ N bq]),()) else
 Y (z,t,())) λ(m,co,_)=>(bj m.length (ax (al m-1))).bind λG=>(a9 m G λB=>Y (m.set G (B.1,(aP b,B.2.2)))).bind λhc=>(loop (σ:=(Z×iu×bm g6×bt)) (ρ:=j4) (λ(x,L,l,_)=>(ao h b).bind λf7=>bw (br (x<al f7)) ((bj l.length (ax (al m-1))).bind λw=>(ao h b).bind λf8=>(ao f8 x).bind λf9=>((a9 l w λT=>Y T).bind λU=>bj U.length f9).bind λH=>(a9 l w λC=>(a9 C H λ_=>Y (C.set H bp)).map λhi=>l.set w hi).bind λhr=>Y (.inl (aP x,L,hr,()))) (Y (.inr (L,l,())))) (0,hc,co,())).bind λ(el,cs,_)=>Y (el,cs,())) λ(em,cv,_)=>Y (.inl (aP b,em,cv,())) else Y (.inr (y,s,()))) (0,[],[],())).bind λ(eq,c1,_)=>(loop (σ:=(Z×iu×bm g6×bt)) (ρ:=(iu×bt)) (λ(a,n,c2,_)=>bif br (a<al n) then(bj n.length a).bind λd1=>
 (a9 n d1 λV=>Y V.1).bind λgc=>(loop (σ:=(Z×iu×bm g6×bt)) (ρ:=j4) (λ(c,d,f,_)=>bif br (c<al h) then bB (α:=j4) ((bj f.length a).bind λI=>((a9 f I λad=>Y ad).bind λam=>bj am.length c).bind λd2=>(a9 f I λan=>a9 an d2 λap=>Y ap).bind λge=>bif !ge then Y (d,f,()) else(bj d.length a).bind λJ=>(a9 d J λav=>Y av.2.2.1).bind λf1=>(cC (f1.length+([c]).length)).bind λ_=>(bj d.length a).bind λp=>bif bH J p&&bp then(a9 d p λa0=>Y a0.2.2.1).bind λf2=>(a9 d p λr=>Y (d.set p (r.1,(r.2.1,((f2++[c]),r.2.2.2))))).bind λi=>bB (α:=j4) (bB (α:=(bA×iu×bm g6×bt)) ((bj i.length a).bind λd3=>(a9 i d3 λa3=>Y a3.2.1).bind λgf=>bif br (c>=gf)==bp then(bj i.length a).bind λd4=>(a9 i d4 λa4=>Y a4.2.2.2.1).bind λgi=>
 Y (br (gi<0),i,f,()) else Y (bq,i,f,())) λ(fT,M,D,_)=>bw fT ((loop (σ:=(Z×iu×bm g6×bt)) (ρ:=j4) (λ(j,e,u,_)=>bw (br (j<al e)) (bB (α:=j4) (bB (α:=(bA×iu×bm g6×bt)) ((bj e.length j).bind λd5=>(a9 e d5 λbl=>Y bl.1).bind λgl=>bw (br (c>=gl)==bp) ((bj e.length j).bind λd6=>(a9 e d6 λbs=>Y bs.2.1).bind λgo=>Y (br (c<go),e,u,())) (Y (bq,e,u,()))) λ(f0,q,E,_)=>bw f0 ((bj q.length a).bind λK=>(a9 q K λo=>Y (q.set K (o.1,(o.2.1,(o.2.2.1,(j,o.2.2.2.2)))))).bind λhs=>Y (hs,E,())) (Y (q,E,()))) λ(ex,dl,_)=>Y (.inl (aP j,ex,dl,()))) (Y (.inr (e,u,())))) (aP a,M,D,())).bind λ(d7,bx,_)=>Y (d7,bx,())) (Y (M,D,()))) λ(g,k,_)=>(bj g.length a).bind λds=>
 (a9 g ds λP=>Y P.2.1).bind λf3=>bw (br (c>=f3)) ((bj g.length a).bind λd0=>(a9 g d0 λQ=>Y Q.2.2.2.1).bind λf4=>(bj k.length f4).bind λv=>((a9 k v λR=>Y R).bind λS=>bj S.length c).bind λF=>(a9 k v λA=>(a9 A F λ_=>Y (A.set F bp)).map λgs=>k.set v gs).bind λgt=>Y (g,gt,())) (Y (g,k,())) else bo) λ(d8,ce,_)=>Y (.inl (aP c,d8,ce,())) else Y (.inr (d,f,()))) (gc,n,c2,())).bind λ(d9,ci,_)=>Y (.inl (aP a,d9,ci,())) else Y (.inr (n,()))) (0,eq,c1,())).bind λ(ek,_)=>Y (ek,())
def zp:nq->bv cJ:=λ(b,e,_)=>(loop (σ:=cJ) (ρ:=np) (λ(a,_)=>bw (br (a<al b)) ((ao b a).bind λf=>bw (e==f) (Y (.inr (.inr (a,())))) (Y (.inl (aP a,())))) (Y (.inr (.inl ())))) (0,())).bind λc=>match c with
 |.inl _=>(Y ((-1:Z),()))
 |.inr d=>Y d
def w9:(c5×be×iu×bt)->bv cJ:=λ(c,d,b,_)=>(Dz (c,d,())).bind λ(aJ,_)=>(bif aJ !=0 then Y (aJ,()) else(Dx (c,d,())).bind λ(h,_)=>(w6 (h,b,())).bind λ(e,_)=>bif e !=0 then Y (e,()) else((loop (σ:=cJ) (ρ:=np) (λ(a,_)=>bw (br (a<al b)) ((ao b a).bind λi=>bw (br (al i.2.2.1>64)) (Y (.inr (.inr (6,())))) (Y (.inl (aP a,())))) (Y (.inr (.inl ())))) (0,())).bind λf=>match f with
 |.inl _=>(Y (0,()))
 |.inr g=>Y g))
abbrev aA:Type:=aif
abbrev jA:Type:=(aA×bt)
abbrev K4:Type:=(bA×jA)
abbrev eX:Type:=eo
abbrev cV:Type:=(bA×(K4×eX))
abbrev ga:Type:=(bm cV)
abbrev e2:Type:=(bm ga)
abbrev dg:Type:=(aA×(Z×(e2×bt)))
abbrev eH:Type:=(aA×(aA×(aA×(aA×(aA×(aA×eX))))))
abbrev fD:Type:=aib
abbrev c4:Type:=(aA×(Z×(fD×(e2×bt))))
abbrev hd:Type:=(aA×(aA×(aA×(bm aA×bt))))
abbrev wm:Type:=ej
abbrev oP:Type:=(Z×(Z×eX))
abbrev kr:Type:=en
abbrev eE:Type:=(aA×jA)
abbrev nl:Type:=(dg×hd×dg×hd×bt)
abbrev qO:Type:=(Z×dg×hd×dg×hd×bt)
abbrev nm:Type:=(dg×dg×bt)
abbrev pG:Type:=(Z×(Z×(aA×eX)))
abbrev qP:Type:=(Z×eH×aA×eH×aA×aA×bt)
abbrev pH:Type:=(eX⊕(bt⊕(eX⊕(bt⊕kr))))
abbrev pI:Type:=(Z×(Z×(aA×eE)))
abbrev wo:Type:=(Z×eH×aA×eH×bt)
def C8:(aA×Z×Z×bA×bt)->bv (pI×aA×bm pG×bt):=λ(b,g,e,f,_)=>(sy (g,6,())).bind λ(a,_)=>(uD (b,a,a,e,())).bind λ(i,_)=>bB (α:=(pI×pI×bt)) (bw f ((zt (b,a,e,())).bind λ(j,_)=>Y (((0:Z),((0:Z),([],([],([],()))))),j,())) (Y (((0:Z),((0:Z),([],([],([],()))))),i,()))) λ(_,c,_)=>(zu (b,a,())).bind λ(d,_)=>(uC (c,d,b,())).bind λ(h,_)=>Y (c,d,h,())
def CG:(pG×bm (bv c4)×bt)->bv (aA×Z×bt):=λ(a,j,_)=>(loop (σ:=(Z×aA×bt)) (ρ:=jA) (λ(h,m,_)=>bw (br (h<al j)) ((ao j h).bind λi=>i.bind λt=>(loop (σ:=(Z×aA×bt)) (ρ:=jA) (λ(e,d,_)=>bw (br (e<t.2.1)) (bB (α:=jA) (i.bind λu=>(ao u.2.2.1 e).bind λr=>bw r (i.bind λs=>(ao s.1 e).bind λn=>(cC (d.length+([n]).length)).bind λ_=>Y ((d++[n]),())) (Y (d,()))) λ(o,_)=>Y (.inl (aP e,o,()))) (Y (.inr (d,())))) (0,m,())).bind λ(p,_)=>Y (.inl (aP h,p,()))) (Y (.inr (m,())))) (0,[],())).bind λ(q,_)=>(loop (σ:=(Z×aA×bt)) (ρ:=jA) (λ(b,f,_)=>bw (br (b<a.2.1)) ((cC (f.length+([b]).length)).bind λ_=>Y (.inl (aP b,(f++[b]),()))) (Y (.inr (f,())))) (a.1,q,())).bind λ(g,_)=>
 ((gu (ax (a.2.1-a.1))).bind λk=>(Y ((a.2.2.1).length)).bind λl=>(g9 k l (a.2.2.1).length).map λ_=>(k,l)).bind λc=>(cC (g.length+(((a.2.2.1).take c.2).drop c.1).length)).bind λ_=>Y ((g++(((a.2.2.1).take c.2).drop c.1)),al g,())
def Cx:(c4×bv c4×bt)->bv (c4×bt):=λ(H,c,_)=>c.bind λr=>(fV (al r.1) (al r.1)).bind λD=>c.bind λs=>(loop (σ:=(Z×c4×aA×bt)) (ρ:=(c4×aA×bt)) (λ(f,g,i,_)=>bw (br (f<al s.1)) (bB (α:=(c4×aA×bt)) ((ao s.1 f).bind λa0=>c.bind λN=>(ao N.2.2.1 f).bind λO=>bw O ((zp (g.1,a0,())).bind λ(E,_)=>wr i f E λa3=>Y (g,a3,())) (Y (g,i,()))) λ(I,t,_)=>Y (.inl (aP f,I,t,()))) (Y (.inr (g,i,())))) (0,H,bJ D (0:Z),())).bind λ(J,l,_)=>(loop (σ:=(Z×c4×aA×bt)) (ρ:=(c4×bt)) (λ(d,q,m,_)=>bif br (d<al l) then(loop (σ:=(Z×c4×aA×bt)) (ρ:=(c4×aA×bt)) (λ(e,k,h,_)=>bif br (e<al m) then bB (α:=(c4×aA×bt)) (bB (α:=(bA×c4×aA×bt)) (c.bind λP=>(ao P.2.2.1 d).bind λQ=>bif Q==bp then c.bind λR=>
 (ao R.2.2.1 e).bind λS=>Y (S,k,h,()) else Y (bq,k,h,())) λ(G,a,b,_)=>bw G (rd b d λT=>(bj (a.2.2.2.1).length T).bind λj=>rd b e λU=>rd b d λV=>(bj (a.2.2.2.1).length V).bind λo=>rd b e λad=>((a9 a.2.2.2.1 o λw=>Y w).bind λx=>bj x.length ad).bind λC=>(a9 a.2.2.2.1 o λy=>a9 y C λz=>Y z).bind λam=>c.bind λan=>(ao an.2.2.2.1 d).bind λap=>(ao ap e).bind λav=>(y0 (am,av,())).bind λ(F,_)=>((a9 a.2.2.2.1 j λA=>Y A).bind λB=>bj B.length U).bind λp=>(((((a9 a.2.2.2.1 j λn=>(a9 n p λ_=>Y (n.set p F)).map λa4=>(a.2.2.2.1).set j a4).map λbl=>(bl,a.2.2.2.2)).map λbs=>(a.2.2.1,bs)).map λbx=>(a.2.1,bx)).map λce=>(a.1,ce)).bind λci=>Y (ci,b,())) (Y (a,b,()))) λ(K,u,_)=>Y (.inl (aP e,K,u,())) else
 Y (.inr (k,h,()))) (0,q,m,())).bind λ(L,v,_)=>Y (.inl (aP d,L,v,())) else Y (.inr (q,()))) (0,J,l,())).bind λ(M,_)=>Y (M,())
def Cv:(bv (Z×((bm aA×bt)×(bm (bv (bm (Z×cV)×X))×bt)))×pG×bm (bv c4)×bt)->bv (c4×Z×bt):=λ(y,m,l,_)=>(CG (m,l,())).bind λ(aJ,a,_)=>(bif br (al (((aJ,(([]:aA),((0:Z),(([]:fD),(([]:e2),())))).2).1,(a,(aJ,(([]:aA),((0:Z),(([]:fD),(([]:e2),())))).2).2.2)).1)>64) then bo else(fV (al (((aJ,(([]:aA),((0:Z),(([]:fD),(([]:e2),())))).2).1,(a,(aJ,(([]:aA),((0:Z),(([]:fD),(([]:e2),())))).2).2.2)).1)) (al (((aJ,(([]:aA),((0:Z),(([]:fD),(([]:e2),())))).2).1,(a,(aJ,(([]:aA),((0:Z),(([]:fD),(([]:e2),())))).2).2.2)).1))).bind λh=>(fV (al (((aJ,(([]:aA),((0:Z),(([]:fD),(([]:e2),())))).2).1,(a,(aJ,(([]:aA),((0:Z),(([]:fD),(([]:e2),())))).2).2.2)).1)) (al (((aJ,(([]:aA),((0:Z),(([]:fD),(([]:e2),())))).2).1,(a,(aJ,(([]:aA),((0:Z),(([]:fD),(([]:e2),())))).2).2.2)).1))).bind λA=>(loop (σ:=(Z×c4×bt)) (ρ:=(c4×bt)) (λ(i,c,_)=>
 bw (br (i<al (((aJ,(([]:aA),((0:Z),(([]:fD),(([]:e2),())))).2).1,(a,(aJ,(([]:aA),((0:Z),(([]:fD),(([]:e2),())))).2).2.2)).1))) ((fV (al (((aJ,(([]:aA),((0:Z),(([]:fD),(([]:e2),())))).2).1,(a,(aJ,(([]:aA),((0:Z),(([]:fD),(([]:e2),())))).2).2.2)).1)) (al (((aJ,(([]:aA),((0:Z),(([]:fD),(([]:e2),())))).2).1,(a,(aJ,(([]:aA),((0:Z),(([]:fD),(([]:e2),())))).2).2.2)).1))).bind λz=>(bj (c.2.2.1).length i).bind λq=>((((a9 c.2.2.1 q λ_=>Y ((c.2.2.1).set q bp)).map λL=>(L,c.2.2.2)).map λM=>(c.2.1,M)).map λN=>(c.1,N)).bind λd=>(bj (d.2.2.2.1).length i).bind λr=>(((((a9 d.2.2.2.1 r λ_=>Y ((d.2.2.2.1).set r (bJ z (bq,((bq,(([]:aif),())),((0:Z),())))))).map λO=>(O,d.2.2.2.2)).map λP=>(d.2.2.1,P)).map λQ=>(d.2.1,Q)).map λR=>(d.1,R)).bind λS=>Y (.inl (aP i,S,()))) (Y (.inr (c,())))) (0,((((aJ,(([]:aA),((0:Z),(([]:fD),(([]:e2),())))).2).1,(a,(aJ,(([]:aA),((0:Z),(([]:fD),(([]:e2),())))).2).2.2)).1,(((aJ,(([]:aA),((0:Z),(([]:fD),(([]:e2),())))).2).1,(a,(aJ,(([]:aA),((0:Z),(([]:fD),(([]:e2),())))).2).2.2)).2.1,(bJ h bq,((aJ,(([]:aA),((0:Z),(([]:fD),(([]:e2),())))).2).1,(a,(aJ,(([]:aA),((0:Z),(([]:fD),(([]:e2),())))).2).2.2)).2.2.2))).1,((((aJ,(([]:aA),((0:Z),(([]:fD),(([]:e2),())))).2).1,(a,(aJ,(([]:aA),((0:Z),(([]:fD),(([]:e2),())))).2).2.2)).1,(((aJ,(([]:aA),((0:Z),(([]:fD),(([]:e2),())))).2).1,(a,(aJ,(([]:aA),((0:Z),(([]:fD),(([]:e2),())))).2).2.2)).2.1,(bJ h bq,((aJ,(([]:aA),((0:Z),(([]:fD),(([]:e2),())))).2).1,(a,(aJ,(([]:aA),((0:Z),(([]:fD),(([]:e2),())))).2).2.2)).2.2.2))).2.1,((((aJ,(([]:aA),((0:Z),(([]:fD),(([]:e2),())))).2).1,(a,(aJ,(([]:aA),((0:Z),(([]:fD),(([]:e2),())))).2).2.2)).1,(((aJ,(([]:aA),((0:Z),(([]:fD),(([]:e2),())))).2).1,(a,(aJ,(([]:aA),((0:Z),(([]:fD),(([]:e2),())))).2).2.2)).2.1,(bJ h bq,((aJ,(([]:aA),((0:Z),(([]:fD),(([]:e2),())))).2).1,(a,(aJ,(([]:aA),((0:Z),(([]:fD),(([]:e2),())))).2).2.2)).2.2.2))).2.2.1,(bJ A [],(((aJ,(([]:aA),((0:Z),(([]:fD),(([]:e2),())))).2).1,(a,(aJ,(([]:aA),((0:Z),(([]:fD),(([]:e2),())))).2).2.2)).1,(((aJ,(([]:aA),((0:Z),(([]:fD),(([]:e2),())))).2).1,(a,(aJ,(([]:aA),((0:Z),(([]:fD),(([]:e2),())))).2).2.2)).2.1,(bJ h bq,((aJ,(([]:aA),((0:Z),(([]:fD),(([]:e2),())))).2).1,(a,(aJ,(([]:aA),((0:Z),(([]:fD),(([]:e2),())))).2).2.2)).2.2.2))).2.2.2.2)))),())).bind λ(D,_)=>
 (loop (σ:=(Z×c4×bt)) (ρ:=(c4×bt)) (λ(e,t,_)=>bif br (e<al (((aJ,(([]:aA),((0:Z),(([]:fD),(([]:e2),())))).2).1,(a,(aJ,(([]:aA),((0:Z),(([]:fD),(([]:e2),())))).2).2.2)).1)) then(loop (σ:=(Z×c4×bt)) (ρ:=(c4×bt)) (λ(f,g,_)=>bif br (f<al (((aJ,(([]:aA),((0:Z),(([]:fD),(([]:e2),())))).2).1,(a,(aJ,(([]:aA),((0:Z),(([]:fD),(([]:e2),())))).2).2.2)).1)) then bB (α:=(c4×bt)) (rd g.1 e λj=>rd g.1 f λk=>bB (α:=(bA×c4×bt)) (bw (br ((if k<j then k else j)>=m.1)==bp) (Y (br ((if k<j then k else j)<m.2.1),g,())) (Y (bq,g,()))) λ(C,b,_)=>bif C then(bj (b.2.2.2.1).length e).bind λn=>rd b.1 e λI=>rd b.1 f λJ=>(xd (y,I,J,())).bind λ(B,_)=>((a9 b.2.2.2.1 n λv=>Y v).bind λw=>bj w.length f).bind λs=>(((((a9 b.2.2.2.1 n λp=>(a9 p s λ_=>Y (p.set s B)).map λT=>(b.2.2.2.1).set n T).map λU=>(U,b.2.2.2.2)).map λV=>(b.2.2.1,V)).map λad=>(b.2.1,ad)).map λam=>(b.1,am)).bind λan=>
 Y (an,()) else Y (b,())) λ(E,_)=>Y (.inl (aP f,E,())) else Y (.inr (g,()))) (0,t,())).bind λ(F,_)=>Y (.inl (aP e,F,())) else Y (.inr (t,()))) (0,D,())).bind λ(G,_)=>(loop (σ:=(Z×c4×bt)) (ρ:=(c4×bt)) (λ(o,u,_)=>bw (br (o<al l)) ((ao l o).bind λK=>(Cx (u,K,())).bind λ(x,_)=>Y (.inl (aP o,x,()))) (Y (.inr (u,())))) (0,G,())).bind λ(H,_)=>Y (H,0,()))
def GP:(cV×bt)->bv ((bA×(K4×(Z×kr)))×bt):=λ(a,_)=>(uv (a.2.1,())).bind λ(b,_)=>Y ((a.2.1.1,(b,(a.2.2.1,(bq,())))),())
def Ca:(cV×Z×bt)->bv eX:=λ(b,c,_)=>(wK (b,())).bind λ(a,_)=>(bw a.1 (Y (9221120237041090560,())) ((mR (a,())).bind λ(aJ,_)=>bw (aJ==0) (Y (0,())) ((GP (a,())).bind λ(d,_)=>(y6 (d,c,())).bind λ(e,_)=>Y (e,()))))
def sw:(bv c4×Z×Z×bt)->bv eX:=λ(d,a,b,_)=>d.bind λe=>(ao e.2.2.2.1 a).bind λf=>(ao f b).bind λg=>(Ca (g,0,())).bind λ(c,_)=>Y (c,())
def Cb:jA->bv kr:=λ(b,_)=>(loop (σ:=eX) (ρ:=(bt⊕kr)) (λ(a,_)=>bw (br (a<al b)) ((ao b a).bind λe=>(B9 (e,())).bind λ(aJ,_)=>bw (aJ==3) (Y (.inr (.inr (bp,())))) (Y (.inl (aP a,())))) (Y (.inr (.inl ())))) (0,())).bind λc=>match c with
 |.inl _=>(Y (bq,()))
 |.inr d=>Y d
def wN:eX->bv eX:=λ(a,_)=>(Cb ([a],())).bind λ(b,_)=>(bw b (Y (9221120237041090560,())) (Y (BM bE a 9223372036854775808,())))
def zm:(bv c4×Z×bt)->bv (cV×Z×Z×bt):=λ(h,i,_)=>(qY (0,())).bind λ(t,_)=>h.bind λz=>(loop (σ:=(Z×Z×cV×cV×bt)) (ρ:=((Z×cV×cV×bt)⊕(cV×Z×Z×bt))) (λ(b,c,d,a,_)=>bif br (c<al z.1) then(bB (α:=(Z×cV×cV×bt)⊕((Z×Z×cV×cV×bt)⊕((Z×cV×cV×bt)⊕(cV×Z×Z×bt)))) (h.bind λA=>(ao A.2.2.1 c).bind λy=>bif !y then Y (.inl (b,d,a,())) else(sw (h,c,i,())).bind λ(g,_)=>(nz (g,())).bind λ(n,_)=>bif !n then Y (.inr (.inr (.inr (a,b,233,())))) else bif c==i then Y (.inl (b,d,a,())) else(wN (g,())).bind λ(o,_)=>(jT (o,())).bind λ(p,_)=>(y1 (p,a,())).bind λ(q,_,_)=>bB (α:=(bA×cV×cV×bt)) (bw (br (q>0)==bq) (Y (br (b<0),d,a,())) (Y (bp,d,a,()))) λ(w,j,k,_)=>
 bw w ((wN (g,())).bind λ(r,_)=>(jT (r,())).bind λ(s,_)=>Y (.inl (c,j,s,()))) (Y (.inl (b,j,k,())))) λe=>match e with
 |.inl (u,x,l,_)=>(Y (.inl (u,aP c,x,l,())))
 |.inr f=>Y f) else Y (.inr (.inl (b,d,a,())))) ((-1:Z),0,(bq,((bq,(([]:aif),())),((0:Z),()))),t,())).bind λe=>match e with
 |.inl (v,_,m,_)=>(Y (m,v,0,()))
 |.inr f=>Y f
def zj:(bv c4×Z×bt)->bv (cV×bt):=λ(d,a,_)=>(sw (d,a,a,())).bind λ(b,_)=>(wN (b,())).bind λ(aJ,_)=>(jT (aJ,())).bind λ(c,_)=>Y (c,())
def wV:(cV×cV×bt)->bv kr:=λ(a,b,_)=>(qY (64,())).bind λ(c,_)=>(ny (c,a,())).bind λ(aJ,_)=>(qY (41,())).bind λ(d,_)=>(ny (d,b,())).bind λ(e,_)=>(y1 (aJ,e,())).bind λ(f,_,_)=>Y (br (f>=0),())
def Cy:(bv c4×bt)->bv (aA×Z×bt):=λ(b,_)=>b.bind λw=>(loop (σ:=eX) (ρ:=(bt⊕(aA×Z×bt))) (λ(a,_)=>bif br (a<w.2.1) then(bB (α:=bt⊕(eX⊕(bt⊕(aA×Z×bt)))) (b.bind λx=>(ao x.2.2.1 a).bind λy=>bif !y then Y (.inl ()) else(zm (b,a,())).bind λ(f,e,i,_)=>bif i !=0 then Y (.inr (.inr (.inr ([],i,())))) else((zj (b,a,())).bind λ(g,_)=>bB (α:=(cV×cV×bt)⊕(bt⊕(eX⊕(bt⊕(aA×Z×bt))))) (bB (α:=(bA×cV×cV×bt)) ((mR (f,())).bind λ(o,_)=>bw ((o==0)==bq) ((wV (g,f,())).bind λ(p,_)=>Y (p,f,g,())) (Y (bp,f,g,()))) λ(v,l,m,_)=>bw v (Y (.inr (.inr (.inr (.inr ([a],0,())))))) (Y (.inl (l,m,())))) λc=>match c with
 |.inl (h,n,_)=>(b.bind λz=>bw (br (e>=z.2.1)) (Y (.inl ())) ((zm (b,e,())).bind λ(j,_,k,_)=>bw (k !=0) (Y (.inr (.inr (.inr ([],k,()))))) ((ny (n,j,())).bind λ(q,_)=>(ny (h,h,())).bind λ(r,_)=>(wV (q,r,())).bind λ(s,_)=>bw s (Y (.inr (.inr (.inr ([a],0,()))))) ((zj (b,e,())).bind λ(t,_)=>(wV (t,j,())).bind λ(u,_)=>bw u (Y (.inr (.inr (.inr ([e],0,()))))) (Y (.inr (.inr (.inr ([a,e],0,())))))))))
 |.inr d=>Y d)) λc=>match c with
 |.inl _=>(Y (.inl (aP a,())))
 |.inr d=>Y d) else Y (.inr (.inl ()))) (0,())).bind λc=>match c with
 |.inl _=>(Y ([],0,()))
 |.inr d=>Y d
def zn:(bv c4×bt)->bv jA:=λ(c,_)=>c.bind λf=>(loop (σ:=(Z×aA×bt)) (ρ:=jA) (λ(a,b,_)=>bw (br (a<al f.1)) (bB (α:=jA) (c.bind λg=>(ao g.2.2.1 a).bind λh=>bw h ((cC (b.length+([a]).length)).bind λ_=>Y ((b++[a]),())) (Y (b,()))) λ(d,_)=>Y (.inl (aP a,d,()))) (Y (.inr (b,())))) (0,[],())).bind λ(e,_)=>Y (e,())
def oW:(ga×cV×bt)->bv (ga×bt):=λ(c,e,_)=>(loop (σ:=(Z×ga×bt)) (ρ:=(ga×bt)) (λ(b,a,_)=>bw (br (b<al c)) ((ao c b).bind λg=>(ny (g,e,())).bind λ(d,_)=>(cC (a.length+([d]).length)).bind λ_=>Y (.inl (aP b,(a++[d]),()))) (Y (.inr (a,())))) (0,[],())).bind λ(f,_)=>Y (f,())
def pW:(c4×aA×ga×ga×bt)->bv (c4×bt):=λ(w,b,u,v,_)=>(loop (σ:=(Z×c4×bt)) (ρ:=(c4×bt)) (λ(c,i,_)=>bif br (c<al b) then(ao b c).bind λk=>(loop (σ:=(Z×c4×bt)) (ρ:=(c4×bt)) (λ(d,a,_)=>bif br (d<al b) then(ao b d).bind λj=>(bj (a.2.2.2.1).length k).bind λe=>(bj (a.2.2.2.1).length k).bind λg=>((a9 a.2.2.2.1 g λl=>Y l).bind λm=>bj m.length j).bind λr=>(a9 a.2.2.2.1 g λn=>a9 n r λo=>Y o).bind λz=>(ao u c).bind λA=>(ao v d).bind λB=>(ny (A,B,())).bind λ(s,_)=>(wL (z,s,())).bind λ(t,_)=>((a9 a.2.2.2.1 e λp=>Y p).bind λq=>bj q.length j).bind λh=>(((((a9 a.2.2.2.1 e λf=>(a9 f h λ_=>Y (f.set h t)).map λC=>(a.2.2.2.1).set e C).map λD=>(D,a.2.2.2.2)).map λE=>(a.2.2.1,E)).map λF=>(a.2.1,F)).map λG=>(a.1,G)).bind λH=>
 Y (.inl (aP d,H,())) else Y (.inr (a,()))) (0,i,())).bind λ(x,_)=>Y (.inl (aP c,x,())) else Y (.inr (i,()))) (0,w,())).bind λ(y,_)=>Y (y,())
def CD:eX->bv (cV×bt):=λ(_,_)=>(qY (0,())).bind λ(a,_)=>Y (a,())
def GS:(bv c4×aA×bt×cV×bt)->bv (eE×ga×Z×bt):=λ(q,f,_,p,_)=>(loop (σ:=(Z×eE×eE×ga×bt)) (ρ:=((eE×eE×ga×bt)⊕(eE×ga×Z×bt))) (λ(e,h,a,d,_)=>bw (br (e<al f)) ((ao f e).bind λi=>(CD (i,())).bind λ(n,_)=>(ss (n,p,0,())).bind λ(b,_)=>(nz (b,())).bind λ(o,_)=>bw (!o) (Y (.inr (.inr (a,[],233,())))) (q.bind λr=>(ao r.1 i).bind λc=>(cC ((a.1).length+([c]).length)).bind λ_=>(cC ((a.2.1).length+([b]).length)).bind λ_=>(jT (b,())).bind λ(g,_)=>(cC (d.length+([g]).length)).bind λ_=>Y (.inl (aP e,h,(((a.1++[c]),a.2).1,((((a.1++[c]),a.2).2.1++[b]),((a.1++[c]),a.2).2.2)),(d++[g]),())))) (Y (.inr (.inl (h,a,d,()))))) (0,([],([],())),([],([],())),[],())).bind λl=>match l with
 |.inl (_,j,k,_)=>(Y (j,k,0,()))
 |.inr m=>Y m
def CC:(Z×bv (bv c4)×ah9×bt)->bv (cV×bt):=λ(a,b,c,_)=>b.bind λd=>d.bind λe=>(ao e.2.2.2.1 a).bind λf=>c.bind λg=>(ao f g).bind λh=>Y (h,())
def GU:(bv c4×aA×(bv (bv c4)×ah9×bt)×cV×bt)->bv (eE×ga×Z×bt):=λ(r,f,g,q,_)=>(loop (σ:=(Z×eE×eE×ga×bt)) (ρ:=((eE×eE×ga×bt)⊕(eE×ga×Z×bt))) (λ(e,i,a,d,_)=>bw (br (e<al f)) ((ao f e).bind λj=>(CC (j,g.1,g.2.1,())).bind λ(o,_)=>(ss (o,q,0,())).bind λ(b,_)=>(nz (b,())).bind λ(p,_)=>bw (!p) (Y (.inr (.inr (a,[],233,())))) (r.bind λs=>(ao s.1 j).bind λc=>(cC ((a.1).length+([c]).length)).bind λ_=>(cC ((a.2.1).length+([b]).length)).bind λ_=>(jT (b,())).bind λ(h,_)=>(cC (d.length+([h]).length)).bind λ_=>Y (.inl (aP e,i,(((a.1++[c]),a.2).1,((((a.1++[c]),a.2).2.1++[b]),((a.1++[c]),a.2).2.2)),(d++[h]),())))) (Y (.inr (.inl (i,a,d,()))))) (0,([],([],())),([],([],())),[],())).bind λm=>match m with
 |.inl (_,k,l,_)=>(Y (k,l,0,()))
 |.inr n=>Y n
def wU:(ga×bt)->bv (cV×bt):=λ(a,_)=>(ao a 0).bind λd=>(ao a 2).bind λe=>(ny (d,e,())).bind λ(aJ,_)=>(ao a 1).bind λf=>(ao a 1).bind λg=>(ny (f,g,())).bind λ(b,_)=>(wL (aJ,b,())).bind λ(c,_)=>Y (c,())
def uy:(Z×Z×bv aA×bv eE×bt)->bv eX:=λ(c,d,a,b,_)=>a.bind λi=>b.bind λj=>(ao j.1 c).bind λk=>(ao i k).bind λl=>a.bind λm=>b.bind λf=>(ao f.1 d).bind λg=>(ao m g).bind λh=>(uq (l,h,())).bind λ(e,_)=>Y (e,())
def G6:(aA×Z×Z×(bv aA×bv eE×bt)×bt)->bv jA:=λ(i,e,h,f,_)=>(loop (σ:=(Z×aA×bt)) (ρ:=jA) (λ(d,g,_)=>bif br (d<h) then(loop (σ:=(Z×aA×bt)) (ρ:=jA) (λ(a,b,_)=>bB (α:=jA⊕((Z×aA×bt)⊕jA)) (bw (br (a>e)==bp) (rd b a λo=>rd b (ax (a-1)) λp=>(uy (o,p,f.1,f.2.1,())).bind λ(n,_)=>bw (br (n<0)) (Y (.inl (b,()))) (Y (.inr (.inr (b,()))))) (Y (.inr (.inr (b,()))))) λl=>match l with
 |.inl (c,_)=>(rd c (ax (a-1)) λq=>rd c a λr=>wr c a q λs=>wr s (ax (a-1)) r λt=>Y (.inl (ax (a-1),t,())))
 |.inr m=>Y m) (d,g,())).bind λ(j,_)=>Y (.inl (aP d,j,())) else Y (.inr (g,()))) (aP e,i,())).bind λ(k,_)=>Y (k,())
def C3:(aA×Z×Z×Z×(bv aA×bv eE×bt)×bt)->bv jA:=λ(f,d,e,h,c,_)=>(loop (σ:=(Z×Z×Z×bA×bA×aA×bt)) (ρ:=jA) (λ(a,b,_,_,_,g,_)=>bw (br (ax (b-a)<=12)) ((G6 (g,a,b,(c.1,c.2.1,()),())).bind λ(i,_)=>Y (.inr (i,()))) bo) (d,e,h,bp,bp,f,())).bind Y
def C0:(aA×(bv aA×bv eE×bt)×bt)->bv jA:=λ(a,b,_)=>(CK (aM (al a),())).bind λ(d,_)=>(C3 (a,0,al a,d,(b.1,b.2.1,()),())).bind λ(c,_)=>Y (c,())
def CI:(bv (bv (Z×((bm aA×bt)×(bm (bv (bm (Z×cV)×X))×bt)))×(aA×(aA×(aA×(bm eE×eX)))))×aA×bt)->bv (eH×bt):=λ(d,j,_)=>(fV (al j) (al j)).bind λP=>d.bind λT=>d.bind λU=>d.bind λad=>d.bind λH=>(loop (σ:=wo) (ρ:=(eH×aA×eH×bt)) (λ(g,B,t,e,_)=>bw (br (g<al H.2.1)) ((ao H.2.1 g).bind λC=>wr t C g λam=>(ao j C).bind λD=>(cC ((e.1).length+([D]).length)).bind λ_=>Y (.inl (aP g,B,am,((e.1++[D]),e.2),()))) (Y (.inr (B,t,e,())))) (0,([],([],([],([],([],([],((0:Z),()))))))),bJ P (0:Z),(([]:aA),(T.2.2.1,(U.2.2.2.1,([0],(([]:aA),(([]:aA),(ad.2.2.2.2.2.1,()))))))),())).bind λ(Q,M,J,_)=>d.bind λE=>(loop (σ:=wo) (ρ:=(eH×eH×bt)) (λ(k,y,N,r,_)=>bif br (k<al E.2.2.2.2.1) then(ao E.2.2.2.2.1 k).bind λm=>(fV (al m.1) (al m.1)).bind λx=>
 (loop (σ:=(Z×eH×aA×eH×eE×aA×bt)) (ρ:=(eH×aA×eH×eE×aA×bt)) (λ(f,z,u,s,p,n,_)=>bw (br (f<al (bJ x (0:Z)))) (wr n f f λan=>Y (.inl (aP f,z,u,s,p,an,()))) (Y (.inr (z,u,s,p,n,())))) (0,y,N,r,m,bJ x (0:Z),())).bind λ(R,v,K,q,I,_)=>(C0 (I,(Y v,Y q,()),())).bind λ(w,_)=>(loop (σ:=(Z×eH×aA×eH×eE×aA×bt)) (ρ:=(eH×aA×eH×bt)) (λ(l,A,i,a,h,o,_)=>bif br (l<al w) then rd o l λF=>(ao h.1 F).bind λV=>rd i V λb=>(cC ((a.2.2.2.2.1).length+([b]).length)).bind λ_=>(ao h.2.1 F).bind λG=>(cC (((a.1,(a.2.1,(a.2.2.1,(a.2.2.2.1,((a.2.2.2.2.1++[b]),a.2.2.2.2.2))))).2.2.2.2.2.1).length+([G]).length)).bind λ_=>Y (.inl (aP l,A,i,((a.1,(a.2.1,(a.2.2.1,(a.2.2.2.1,((a.2.2.2.2.1++[b]),a.2.2.2.2.2))))).1,((a.1,(a.2.1,(a.2.2.1,(a.2.2.2.1,((a.2.2.2.2.1++[b]),a.2.2.2.2.2))))).2.1,((a.1,(a.2.1,(a.2.2.1,(a.2.2.2.1,((a.2.2.2.2.1++[b]),a.2.2.2.2.2))))).2.2.1,((a.1,(a.2.1,(a.2.2.1,(a.2.2.2.1,((a.2.2.2.2.1++[b]),a.2.2.2.2.2))))).2.2.2.1,((a.1,(a.2.1,(a.2.2.1,(a.2.2.2.1,((a.2.2.2.2.1++[b]),a.2.2.2.2.2))))).2.2.2.2.1,(((a.1,(a.2.1,(a.2.2.1,(a.2.2.2.1,((a.2.2.2.2.1++[b]),a.2.2.2.2.2))))).2.2.2.2.2.1++[G]),(a.1,(a.2.1,(a.2.2.1,(a.2.2.2.1,((a.2.2.2.2.1++[b]),a.2.2.2.2.2))))).2.2.2.2.2.2)))))),h,o,())) else
 Y (.inr (A,i,a,()))) (0,R,v,K,q,w,())).bind λ(S,O,c,_)=>(cC ((c.2.2.2.1).length+([al c.2.2.2.2.1]).length)).bind λ_=>Y (.inl (aP k,S,O,(c.1,(c.2.1,(c.2.2.1,((c.2.2.2.1++[al c.2.2.2.2.1]),c.2.2.2.2)))),())) else Y (.inr (y,r,()))) (0,Q,M,J,())).bind λ(_,L,_)=>Y (L,())
def Ct:(pG×bt)->bv kr:=λ(a,_)=>Y (br (al a.2.2.1>64),())
def CX:(bm pG×bt×bt)->bv eX:=λ(b,_,_)=>(loop (σ:=eX) (ρ:=(bt⊕eX)) (λ(a,_)=>bw (br (a<al b)) ((ao b a).bind λf=>(Ct (f,())).bind λ(e,_)=>bw e (Y (.inr (.inr (a,())))) (Y (.inl (aP a,())))) (Y (.inr (.inl ())))) (0,())).bind λc=>match c with
 |.inl _=>(Y ((-1:Z),()))
 |.inr d=>Y d
def CV:(bm pG×bt×bt)->bv kr:=λ(b,_,_)=>(CX (b,(),())).bind λ(a,_)=>Y (br (a>=0),())
def q7:(aA×Z×bt)->bv eX:=λ(b,c,_)=>(loop (σ:=eX) (ρ:=(bt⊕eX)) (λ(a,_)=>bw (br (a<al b)) ((ao b a).bind λf=>bw (f==c) (Y (.inr (.inr (a,())))) (Y (.inl (aP a,())))) (Y (.inr (.inl ())))) (0,())).bind λd=>match d with
 |.inl _=>(Y ((-1:Z),()))
 |.inr e=>Y e
def DA:(pI×aA×bm pG×Z×bm dg×bt)->bv (dg×bt):=λ(an,ci,c,b,y,_)=>(loop (σ:=(Z×dg×dg×bt)) (ρ:=nm) (λ(g,B,m,_)=>bw (br (g<b)) (bB (α:=nm) ((ao c g).bind λgf=>bw (gf.2.2.2.1==b) ((ao y g).bind λF=>(ao y g).bind λft=>((Y (0)).bind λL=>(gu ft.2.1).bind λM=>(g9 L M (F.1).length).map λ_=>(L,M)).bind λs=>(cC ((m.1).length+(((F.1).take s.2).drop s.1).length)).bind λ_=>Y (B,((m.1++(((F.1).take s.2).drop s.1)),m.2),())) (Y (B,m,()))) λ(dl,el,_)=>Y (.inl (aP g,dl,el,()))) (Y (.inr (B,m,())))) (0,([],((0:Z),([],()))),([],((0:Z),([],()))),())).bind λ(ds,em,_)=>(ao c b).bind λfT=>(loop (σ:=(Z×dg×dg×bt)) (ρ:=nm) (λ(q,Q,t,_)=>(ao c b).bind λf0=>bif br (q<f0.2.1) then(cC ((t.1).length+([q]).length)).bind λ_=>Y (.inl (aP q,Q,((t.1++[q]),t.2),())) else
 Y (.inr (Q,t,()))) (fT.1,ds,em,())).bind λ(d0,D,_)=>(loop (σ:=(Z×dg×dg×bt)) (ρ:=nm) (λ(o,z,j,_)=>(ao c b).bind λf1=>bw (br (o<al f1.2.2.1)) (bB (α:=nm) ((ao c b).bind λf2=>(ao f2.2.2.1 o).bind λf3=>(ao c b).bind λf4=>bw (br (f3>=f4.2.1)) ((ao c b).bind λf5=>(ao f5.2.2.1 o).bind λad=>(cC ((j.1).length+([ad]).length)).bind λ_=>Y (z,((j.1++[ad]),j.2),())) (Y (z,j,()))) λ(d1,eq,_)=>Y (.inl (aP o,d1,eq,()))) (Y (.inr (z,j,())))) (0,d0,(D.1,(al D.1,D.2.2)),())).bind λ(d2,k,_)=>(loop (σ:=(Z×dg×dg×bt)) (ρ:=nm) (λ(h,R,e,_)=>bif br (h<al k.1) then(fV (al k.1) (al k.1)).bind λN=>(cC ((e.2.2.1).length+([bJ N (bq,((bq,(([]:aif),())),((0:Z),())))]).length)).bind λ_=>(loop (σ:=(Z×dg×dg×bt)) (ρ:=nm) (λ(i,A,l,_)=>bif br (i<al k.1) then
 bB (α:=nm) (rd l.1 h λu=>rd l.1 i λv=>bB (α:=(bA×dg×dg×bt)) ((ao c b).bind λf6=>bw (br ((if v<u then v else u)>=f6.1)==bp) ((ao c b).bind λf7=>Y (br ((if v<u then v else u)<f7.2.1),A,l,())) (Y (bq,A,l,()))) λ(d3,S,d,_)=>bw d3 ((bj (d.2.2.1).length h).bind λw=>rd d.1 h λf8=>rd d.1 i λf9=>(w8 (an,ci,f8,f9,())).bind λ(cs,_)=>((a9 d.2.2.1 w λbs=>Y bs).bind λbx=>bj bx.length i).bind λK=>((((a9 d.2.2.1 w λH=>(a9 H K λ_=>Y (H.set K cs)).map λhs=>(d.2.2.1).set w hs).map λhv=>(hv,d.2.2.2)).map λhw=>(d.2.1,hw)).map λib=>(d.1,ib)).bind λic=>Y (S,ic,())) (Y (S,d,()))) λ(d4,ex,_)=>Y (.inl (aP i,d4,ex,())) else Y (.inr (A,l,()))) (0,R,(e.1,(e.2.1,((e.2.2.1++[bJ N (bq,((bq,(([]:aif),())),((0:Z),())))]),e.2.2.2))),())).bind λ(d5,fl,_)=>
 Y (.inl (aP h,d5,fl,())) else Y (.inr (R,e,()))) (0,d2,k,())).bind λ(d6,fn,_)=>(loop (σ:=(Z×dg×dg×bt)) (ρ:=nm) (λ(n,C,E,_)=>bif br (n<b) then bB (α:=nm) ((ao c n).bind λgc=>bif gc.2.2.2.1 !=b then Y (C,E,()) else(ao y n).bind λge=>(loop (σ:=(Z×dg×dg×dg×bt)) (ρ:=nm) (λ(p,T,V,am,_)=>bif br (p<al am.1) then(loop (σ:=(Z×dg×dg×dg×bt)) (ρ:=(dg×dg×dg×bt)) (λ(r,U,a,f,_)=>bif br (r<al f.1) then(ao f.1 p).bind λgi=>(q7 (a.1,gi,())).bind λ(O,_)=>(ao f.1 r).bind λgl=>(q7 (a.1,gl,())).bind λ(P,_)=>(bj (a.2.2.1).length O).bind λx=>(bj (a.2.2.1).length O).bind λI=>((a9 a.2.2.1 I λap=>Y ap).bind λav=>bj av.length P).bind λce=>(a9 a.2.2.1 I λa0=>a9 a0 ce λa3=>Y a3).bind λfp=>(ao f.2.2.1 p).bind λfs=>(ao fs r).bind λfz=>
 (sC (fp,fz,())).bind λ(co,_)=>((a9 a.2.2.1 x λa4=>Y a4).bind λbl=>bj bl.length P).bind λJ=>((((a9 a.2.2.1 x λG=>(a9 G J λ_=>Y (G.set J co)).map λgs=>(a.2.2.1).set x gs).map λgt=>(gt,a.2.2.2)).map λhc=>(a.2.1,hc)).map λhi=>(a.1,hi)).bind λhr=>Y (.inl (aP r,U,hr,f,())) else Y (.inr (U,a,f,()))) (0,T,V,am,())).bind λ(cv,d7,go,_)=>Y (.inl (aP p,cv,d7,go,())) else Y (.inr (T,V,()))) (0,C,E,ge,())).bind λ(c1,d8,_)=>Y (c1,d8,())) λ(c2,d9,_)=>Y (.inl (aP n,c2,d9,())) else Y (.inr (C,E,()))) (0,d6,fn,())).bind λ(_,ek,_)=>Y (ek,())
def uK:(cV×bt)->bv eX:=λ(a,_)=>(w5 (a,0,())).bind λ(b,_)=>Y (b,())
def zT:(dg×Z×bt)->bv (ga×bA×bt):=λ(e,f,_)=>(loop (σ:=(Z×ga×bt)) (ρ:=((ga×bt)⊕(ga×bA×bt))) (λ(a,b,_)=>bw (br (a<al e.1)) ((ao e.2.2.1 a).bind λl=>(ao l f).bind λm=>(uK (m,())).bind λ(c,_)=>(q3 (c,())).bind λ(i,_)=>bw (!i) (Y (.inr (.inr ([],bq,())))) ((ku (c,())).bind λ(j,_)=>(zD (j,())).bind λ(d,_)=>(cC (b.length+([d]).length)).bind λ_=>Y (.inl (aP a,(b++[d]),())))) (Y (.inr (.inl (b,()))))) (0,[],())).bind λg=>match g with
 |.inl (k,_)=>(Y (k,bp,()))
 |.inr h=>Y h
def xb:(ga×Z×bt)->bv (cV×Z×bt):=λ(e,l,_)=>(loop (σ:=(Z×Z×cV×cV×bt)) (ρ:=(Z×cV×cV×bt)) (λ(d,a,c,b,_)=>bw (br (a<al e)) (bB (α:=(Z×cV×cV×bt)) (bB (α:=(bA×cV×cV×bt)) (bw ((a !=l)==bp) (bw (br (d<0)==bq) ((ao e a).bind λq=>(zP (b,q,())).bind λ(m,_)=>Y (m,c,b,())) (Y (bp,c,b,()))) (Y (bq,c,b,()))) λ(o,f,i,_)=>bw o ((ao e a).bind λp=>Y (a,f,p,())) (Y (d,f,i,()))) λ(g,n,j,_)=>Y (.inl (g,aP a,n,j,()))) (Y (.inr (d,c,b,())))) ((-1:Z),0,(bq,((bq,(([]:aif),())),((0:Z),()))),(bq,((bq,(([]:aif),())),((0:Z),()))),())).bind λ(h,_,k,_)=>Y (k,h,())
def xc:(cV×cV×bt)->bv kr:=λ(a,b,_)=>(uH (64,())).bind λ(c,_)=>(j8 (c,a,())).bind λ(aJ,_)=>(uH (41,())).bind λ(d,_)=>(j8 (d,b,())).bind λ(e,_)=>(zP (aJ,e,())).bind λ(f,_)=>Y ((!f),())
def zS:(dg×bt)->bv (aA×bA×bt):=λ(f,_)=>(loop (σ:=eX) (ρ:=(bt⊕(aA×bA×bt))) (λ(a,_)=>bif br (a<f.2.1) then(bB (α:=bt⊕(eX⊕(bt⊕(aA×bA×bt)))) ((zT (f,a,())).bind λ(g,l,_)=>bif !l then Y (.inr (.inr (.inr ([],bq,())))) else((xb (g,a,())).bind λ(e,b,_)=>bB (α:=(cV×bt)⊕(bt⊕(eX⊕(bt⊕(aA×bA×bt))))) (bB (α:=(bA×cV×bt)) ((Dk (e,())).bind λ(m,_)=>bw ((m==0)==bq) ((ao g a).bind λu=>(xc (u,e,())).bind λ(n,_)=>Y (n,e,())) (Y (bp,e,()))) λ(t,k,_)=>bw t (Y (.inr (.inr (.inr (.inr ([a],bp,())))))) (Y (.inl (k,())))) λc=>match c with
 |.inl (h,_)=>(bw (br (b>=f.2.1)) (Y (.inl ())) ((zT (f,b,())).bind λ(i,o,_)=>bw (!o) (Y (.inr (.inr (.inr ([],bq,()))))) ((xb (i,b,())).bind λ(j,_,_)=>(ao g a).bind λv=>(j8 (v,j,())).bind λ(p,_)=>(j8 (h,h,())).bind λ(q,_)=>(xc (p,q,())).bind λ(r,_)=>bw r (Y (.inr (.inr (.inr ([a],bp,()))))) ((ao i b).bind λw=>(xc (w,j,())).bind λ(s,_)=>bw s (Y (.inr (.inr (.inr ([b],bp,()))))) (Y (.inr (.inr (.inr ([a,b],bp,())))))))))
 |.inr d=>Y d)) λc=>match c with
 |.inl _=>(Y (.inl (aP a,())))
 |.inr d=>Y d) else Y (.inr (.inl ()))) (0,())).bind λc=>match c with
 |.inl _=>(Y ([],bp,()))
 |.inr d=>Y d
def DC:(dg×aA×bt)->bv (dg×bt):=λ(b,g,_)=>(loop (σ:=(Z×dg×dg×bt)) (ρ:=nm) (λ(a,h,d,_)=>bif br (a<al b.1) then bB (α:=nm) ((q7 (g,a,())).bind λ(o,_)=>bif br (o>=0) then Y (h,d,()) else(ao b.1 a).bind λm=>(cC ((d.1).length+([m]).length)).bind λ_=>(loop (σ:=(Z×dg×dg×ga×bt)) (ρ:=(dg×dg×ga×bt)) (λ(e,i,j,f,_)=>bw (br (e<al b.1)) (bB (α:=(dg×dg×ga×bt)) ((q7 (g,e,())).bind λ(n,_)=>bw (br (n<0)) ((ao b.2.2.1 a).bind λt=>(ao t e).bind λl=>(cC (f.length+([l]).length)).bind λ_=>Y (i,j,(f++[l]),())) (Y (i,j,f,()))) λ(q,u,p,_)=>Y (.inl (aP e,q,u,p,()))) (Y (.inr (i,j,f,())))) (0,h,((d.1++[m]),d.2),[],())).bind λ(r,c,k,_)=>(cC ((c.2.2.1).length+([k]).length)).bind λ_=>
 Y (r,(c.1,(c.2.1,((c.2.2.1++[k]),c.2.2.2))),())) λ(s,v,_)=>Y (.inl (aP a,s,v,())) else Y (.inr (h,d,()))) (0,([],((0:Z),([],()))),(([]:aA),(ax (b.2.1-al g),(([]:e2),()))),())).bind λ(_,w,_)=>Y (w,())
def zR:jA->bv (cV×bt):=λ(a,_)=>(ao a 0).bind λd=>(ao a 2).bind λe=>(zQ (d,e,())).bind λ(aJ,_)=>(ao a 1).bind λf=>(ao a 1).bind λg=>(zQ (f,g,())).bind λ(b,_)=>(uI (aJ,b,())).bind λ(c,_)=>Y (c,())
def uM:(hd×dg×aA×Z×bt)->bv jA:=λ(a,f,b,d,_)=>(ao f.2.2.1 d).bind λC=>(ao b 0).bind λD=>(ao C D).bind λc=>(bif al b==1 then(ao a.2.1 0).bind λE=>(Dw (E,())).bind λ(v,_)=>bw v (Y ([0],())) ((ao a.2.1 0).bind λw=>(ku (w,())).bind λ(h,_)=>(w7 (c,h,())).bind λ(i,_)=>Y ([i],())) else(ao f.2.2.1 d).bind λx=>(ao b 1).bind λy=>(ao x y).bind λg=>(ao a.2.1 0).bind λz=>(ku (z,())).bind λ(j,_)=>(ao a.2.1 1).bind λA=>(ku (A,())).bind λ(e,_)=>(ao a.2.1 2).bind λB=>(ku (B,())).bind λ(k,_)=>(j8 (c,k,())).bind λ(l,_)=>(j8 (g,e,())).bind λ(m,_)=>(uI (l,m,())).bind λ(n,_)=>(j8 (g,j,())).bind λ(o,_)=>(j8 (c,e,())).bind λ(p,_)=>(uI (o,p,())).bind λ(q,_)=>
 (zR (a.2.1,())).bind λ(r,_)=>(w7 (n,r,())).bind λ(s,_)=>(zR (a.2.1,())).bind λ(t,_)=>(w7 (q,t,())).bind λ(u,_)=>Y ([s,u],()))
def uL:(hd×Z×Z×bt)->bv (cV×bt):=λ(a,b,c,_)=>(ao a.2.2.2.1 0).bind λD=>(ao D b).bind λE=>(ku (E,())).bind λ(h,_)=>(ao a.2.2.2.1 0).bind λF=>(ao F c).bind λG=>(ku (G,())).bind λ(i,_)=>(ao a.2.1 0).bind λw=>(ku (w,())).bind λ(j,_)=>(j8 (h,j,())).bind λ(k,_)=>(j8 (k,i,())).bind λ(d,_)=>bB (α:=(cV×cV×bt)) (bif al a.1==2 then(ao a.2.2.2.1 1).bind λx=>(ao x b).bind λy=>(ku (y,())).bind λ(e,_)=>(ao a.2.2.2.1 1).bind λz=>(ao z c).bind λA=>(ku (A,())).bind λ(f,_)=>(ao a.2.1 1).bind λB=>(ku (B,())).bind λ(g,_)=>(ao a.2.1 2).bind λC=>(ku (C,())).bind λ(l,_)=>(j8 (h,g,())).bind λ(m,_)=>(j8 (m,f,())).bind λ(n,_)=>(sC (d,n,())).bind λ(o,_)=>(j8 (e,g,())).bind λ(p,_)=>
 (j8 (p,i,())).bind λ(q,_)=>(sC (o,q,())).bind λ(r,_)=>(j8 (e,l,())).bind λ(s,_)=>(j8 (s,f,())).bind λ(t,_)=>(sC (r,t,())).bind λ(u,_)=>Y ((bq,((bq,(([]:aif),())),((0:Z),()))),u,()) else Y ((bq,((bq,(([]:aif),())),((0:Z),()))),d,())) λ(_,v,_)=>Y (v,())
def xa:(dg×aA×bt)->bv (dg×hd×bA×bt):=λ(f,b,_)=>(DC (f,b,())).bind λ(G,_)=>(loop (σ:=qO) (ρ:=nl) (λ(r,L,M,T,a,_)=>bw (br (r<al b)) ((ao b r).bind λf0=>(ao f.1 f0).bind λg=>(cC ((a.1).length+([g]).length)).bind λ_=>(cC ((((a.1++[g]),a.2).2.2.2.1).length+([([]:aA)]).length)).bind λ_=>Y (.inl (aP r,L,M,T,(((a.1++[g]),a.2).1,(((a.1++[g]),a.2).2.1,(((a.1++[g]),a.2).2.2.1,((((a.1++[g]),a.2).2.2.2.1++[([]:aA)]),((a.1++[g]),a.2).2.2.2.2)))),()))) (Y (.inr (L,M,T,a,())))) (0,([],((0:Z),([],()))),([],([],([],([],())))),G,(([]:aA),(([]:aA),(G.1,(([]:bm aA),())))),())).bind λ(H,I,S,e,_)=>(ao b 0).bind λd9=>(ao f.2.2.1 d9).bind λek=>(ao b 0).bind λel=>(ao ek el).bind λem=>(uK (em,())).bind λ(m,_)=>bB (α:=nl) (bif al b==2 then(ao b 1).bind λeq=>
 (ao f.2.2.1 eq).bind λex=>(ao b 0).bind λfl=>(ao ex fl).bind λfn=>(uK (fn,())).bind λ(E,_)=>(ao b 1).bind λfp=>(ao f.2.2.1 fp).bind λfs=>(ao b 1).bind λft=>(ao fs ft).bind λfz=>(uK (fz,())).bind λ(F,_)=>(cC (((e.1,([m],e.2.2)).2.1).length+([E,F]).length)).bind λ_=>Y (H,I,S,((e.1,([m],e.2.2)).1,(((e.1,([m],e.2.2)).2.1++[E,F]),(e.1,([m],e.2.2)).2.2)),()) else Y (H,I,S,(e.1,([m],e.2.2)),())) λ(ds,d0,f4,bs,_)=>(loop (σ:=qO) (ρ:=(nl⊕(dg×hd×bA×bt))) (λ(n,u,v,w,p,_)=>bif br (n<al f.1) then(bB (α:=nl⊕(qO⊕(nl⊕(dg×hd×bA×bt)))) ((q7 (b,n,())).bind λ(co,_)=>bif br (co>=0) then Y (.inl (u,v,w,p,())) else((uM (p,f,b,n,())).bind λ(t,_)=>(loop (σ:=qO) (ρ:=(nl⊕(nl⊕(qO⊕(nl⊕(dg×hd×bA×bt)))))) (λ(h,J,K,x,c,_)=>
  bw (br (h<al t)) ((ao t h).bind λfT=>(q3 (fT,())).bind λ(cs,_)=>bw (!cs) (Y (.inr (.inr (.inr (.inr (.inr (x,c,bq,()))))))) ((bj (c.2.2.2.1).length h).bind λA=>(ao t h).bind λR=>(a9 c.2.2.2.1 A λU=>Y U).bind λd7=>(cC (d7.length+([R]).length)).bind λ_=>(bj (c.2.2.2.1).length h).bind λo=>bw (bH A o&&bp) ((a9 c.2.2.2.1 o λV=>Y V).bind λd8=>(((((a9 c.2.2.2.1 o λ_=>Y ((c.2.2.2.1).set o (d8++[R]))).map λgi=>(gi,c.2.2.2.2)).map λgl=>(c.2.2.1,gl)).map λgo=>(c.2.1,go)).map λgs=>(c.1,gs)).bind λgt=>Y (.inl (aP h,J,K,x,gt,()))) bo)) (Y (.inr (.inl (J,K,x,c,()))))) (0,u,v,w,p,())).bind λk=>match k with
 |.inl (d1,d2,f5,bx,_)=>(Y (.inl (d1,d2,f5,bx,())))
 |.inr l=>Y l)) λk=>match k with
 |.inl (d3,d4,f6,ce,_)=>(Y (.inl (aP n,d3,d4,f6,ce,())))
 |.inr l=>Y l) else Y (.inr (.inl (u,v,w,p,())))) (0,ds,d0,f4,bs,())).bind λk=>match k with
 |.inl (d5,d6,f7,ci,_)=>((loop (σ:=qO) (ρ:=nl) (λ(i,N,O,y,D,_)=>bif br (i<al y.1) then(loop (σ:=qO) (ρ:=nl) (λ(j,P,Q,d,s,_)=>bw (br (j<al d.1)) ((bj (d.2.2.1).length i).bind λq=>(bj (d.2.2.1).length i).bind λB=>((a9 d.2.2.1 B λad=>Y ad).bind λam=>bj am.length j).bind λa3=>(a9 d.2.2.1 B λan=>a9 an a3 λap=>Y ap).bind λf1=>(uL (s,i,j,())).bind λ(cv,_)=>(uI (f1,cv,())).bind λ(c1,_)=>((a9 d.2.2.1 q λav=>Y av).bind λa0=>bj a0.length j).bind λC=>((((a9 d.2.2.1 q λz=>(a9 z C λ_=>Y (z.set C c1)).map λf8=>(d.2.2.1).set q f8).map λf9=>(f9,d.2.2.2)).map λgc=>(d.2.1,gc)).map λge=>(d.1,ge)).bind λgf=>Y (.inl (aP j,P,Q,gf,s,()))) (Y (.inr (P,Q,d,s,())))) (0,N,O,y,D,())).bind λ(c2,dl,f2,a4,_)=>
 Y (.inl (aP i,c2,dl,f2,a4,())) else Y (.inr (N,O,y,D,()))) (0,d5,d6,f7,ci,())).bind λ(_,_,f3,bl,_)=>Y (f3,bl,bp,()))
 |.inr l=>Y l
def DB:(aA×bm hd×Z×bt)->bv (eH×bt):=λ(z,e,a0,_)=>(fV (al z) (al z)).bind λds=>(loop (σ:=wo) (ρ:=(eH×aA×eH×bt)) (λ(j,ad,I,G,_)=>bif br (j<al e) then(loop (σ:=wo) (ρ:=(eH×aA×eH×bt)) (λ(r,am,J,n,_)=>(ao e j).bind λfn=>bw (br (r<al fn.1)) ((ao e j).bind λfp=>(ao fp.1 r).bind λfs=>wr J fs (al n.1) λfT=>(ao e j).bind λft=>(ao ft.1 r).bind λfz=>(ao z fz).bind λap=>(cC ((n.1).length+([ap]).length)).bind λ_=>Y (.inl (aP r,am,fT,((n.1++[ap]),n.2),()))) (Y (.inr (am,J,n,())))) (0,ad,I,G,())).bind λ(d6,c1,c,_)=>(ao e j).bind λl=>(cC ((c.2.1).length+([al l.1]).length)).bind λ_=>(ao e j).bind λav=>(cC (((c.1,((c.2.1++[al l.1]),c.2.2)).2.2.1).length+(av.2.1).length)).bind λ_=>Y (.inl (aP j,d6,c1,((c.1,((c.2.1++[al l.1]),c.2.2)).1,((c.1,((c.2.1++[al l.1]),c.2.2)).2.1,(((c.1,((c.2.1++[al l.1]),c.2.2)).2.2.1++av.2.1),(c.1,((c.2.1++[al l.1]),c.2.2)).2.2.2))),())) else
 Y (.inr (ad,I,G,()))) (0,([],([],([],([],([],([],((0:Z),()))))))),bJ ds (0:Z),(([]:aA),(([]:aA),(([]:aA),([0],(([]:aA),(([]:aA),(a0,()))))))),())).bind λ(d7,c2,bx,_)=>(loop (σ:=wo) (ρ:=(eH×eH×bt)) (λ(k,T,ce,D,_)=>bif br (k<al e) then(loop (σ:=wo) (ρ:=(eH×aA×eH×bt)) (λ(y,U,H,E,_)=>(ao e k).bind λd9=>bif br (y<al d9.1) then(loop (σ:=qP) (ρ:=(eH×aA×eH×aA×aA×bt)) (λ(q,V,w,F,K,an,_)=>(ao e k).bind λek=>bif br (q<al ek.2.2.1) then(ao e k).bind λel=>(ao el.2.2.1 q).bind λem=>rd w em λu=>(loop (σ:=qP) (ρ:=qP) (λ(m,A,x,v,o,B,_)=>bB (α:=(eH×aA×eH×aA×aA×bt)⊕(qP⊕qP)) (bif br (m<al o)==bp then rd o m λeq=>bif br (eq<u) then Y (.inl (A,x,v,o,B,())) else
 Y (.inr (.inr (m,A,x,v,o,B,()))) else Y (.inr (.inr (m,A,x,v,o,B,())))) λd0=>match d0 with
 |.inl (d2,ci,a3,dl,d8,_)=>(Y (.inl (aP m,d2,ci,a3,dl,d8,())))
 |.inr d1=>Y d1) (0,V,w,F,K,an,())).bind λ(p,d3,co,a4,d,f,_)=>((Y (0)).bind λL=>(gu p).bind λM=>(g9 L M d.length).bind λ_=>(nL d.length).map λ_=>(L,M)).bind λh=>(cC (([]:aA).length+((d.take h.2).drop h.1).length)).bind λ_=>(cC (([]++((d.take h.2).drop h.1)).length+([u]).length)).bind λ_=>((gu p).bind λN=>(Y d.length).bind λO=>(g9 N O d.length).bind λ_=>(nL d.length).map λ_=>(N,O)).bind λs=>(cC ((([]++((d.take h.2).drop h.1))++[u]).length+((d.take s.2).drop s.1).length)).bind λ_=>((Y (0)).bind λP=>(gu p).bind λQ=>(g9 P Q f.length).bind λ_=>(nL f.length).map λ_=>(P,Q)).bind λi=>(cC (([]:aA).length+((f.take i.2).drop i.1).length)).bind λ_=>(ao e k).bind λex=>(ao ex.2.2.2.1 y).bind λfl=>(ao fl q).bind λC=>
 (cC (([]++((f.take i.2).drop i.1)).length+([C]).length)).bind λ_=>((gu p).bind λR=>(Y f.length).bind λS=>(g9 R S f.length).bind λ_=>(nL f.length).map λ_=>(R,S)).bind λt=>(cC ((([]++((f.take i.2).drop i.1))++[C]).length+((f.take t.2).drop t.1).length)).bind λ_=>Y (.inl (aP q,d3,co,a4,((([]++((d.take h.2).drop h.1))++[u])++((d.take s.2).drop s.1)),((([]++((f.take i.2).drop i.1))++[C])++((f.take t.2).drop t.1)),())) else Y (.inr (V,w,F,K,an,()))) (0,U,H,E,[],[],())).bind λ(d4,cs,a,b,g,_)=>(cC ((a.2.2.2.2.1).length+b.length)).bind λ_=>(cC (((a.1,(a.2.1,(a.2.2.1,(a.2.2.2.1,((a.2.2.2.2.1++b),a.2.2.2.2.2))))).2.2.2.2.2.1).length+g.length)).bind λ_=>(cC ((((a.1,(a.2.1,(a.2.2.1,(a.2.2.2.1,((a.2.2.2.2.1++b),a.2.2.2.2.2))))).1,((a.1,(a.2.1,(a.2.2.1,(a.2.2.2.1,((a.2.2.2.2.1++b),a.2.2.2.2.2))))).2.1,((a.1,(a.2.1,(a.2.2.1,(a.2.2.2.1,((a.2.2.2.2.1++b),a.2.2.2.2.2))))).2.2.1,((a.1,(a.2.1,(a.2.2.1,(a.2.2.2.1,((a.2.2.2.2.1++b),a.2.2.2.2.2))))).2.2.2.1,((a.1,(a.2.1,(a.2.2.1,(a.2.2.2.1,((a.2.2.2.2.1++b),a.2.2.2.2.2))))).2.2.2.2.1,(((a.1,(a.2.1,(a.2.2.1,(a.2.2.2.1,((a.2.2.2.2.1++b),a.2.2.2.2.2))))).2.2.2.2.2.1++g),(a.1,(a.2.1,(a.2.2.1,(a.2.2.2.1,((a.2.2.2.2.1++b),a.2.2.2.2.2))))).2.2.2.2.2.2)))))).2.2.2.1).length+([al (((a.1,(a.2.1,(a.2.2.1,(a.2.2.2.1,((a.2.2.2.2.1++b),a.2.2.2.2.2))))).1,((a.1,(a.2.1,(a.2.2.1,(a.2.2.2.1,((a.2.2.2.2.1++b),a.2.2.2.2.2))))).2.1,((a.1,(a.2.1,(a.2.2.1,(a.2.2.2.1,((a.2.2.2.2.1++b),a.2.2.2.2.2))))).2.2.1,((a.1,(a.2.1,(a.2.2.1,(a.2.2.2.1,((a.2.2.2.2.1++b),a.2.2.2.2.2))))).2.2.2.1,((a.1,(a.2.1,(a.2.2.1,(a.2.2.2.1,((a.2.2.2.2.1++b),a.2.2.2.2.2))))).2.2.2.2.1,(((a.1,(a.2.1,(a.2.2.1,(a.2.2.2.1,((a.2.2.2.2.1++b),a.2.2.2.2.2))))).2.2.2.2.2.1++g),(a.1,(a.2.1,(a.2.2.1,(a.2.2.2.1,((a.2.2.2.2.1++b),a.2.2.2.2.2))))).2.2.2.2.2.2)))))).2.2.2.2.1)]).length)).bind λ_=>
 Y (.inl (aP y,d4,cs,(((a.1,(a.2.1,(a.2.2.1,(a.2.2.2.1,((a.2.2.2.2.1++b),a.2.2.2.2.2))))).1,((a.1,(a.2.1,(a.2.2.1,(a.2.2.2.1,((a.2.2.2.2.1++b),a.2.2.2.2.2))))).2.1,((a.1,(a.2.1,(a.2.2.1,(a.2.2.2.1,((a.2.2.2.2.1++b),a.2.2.2.2.2))))).2.2.1,((a.1,(a.2.1,(a.2.2.1,(a.2.2.2.1,((a.2.2.2.2.1++b),a.2.2.2.2.2))))).2.2.2.1,((a.1,(a.2.1,(a.2.2.1,(a.2.2.2.1,((a.2.2.2.2.1++b),a.2.2.2.2.2))))).2.2.2.2.1,(((a.1,(a.2.1,(a.2.2.1,(a.2.2.2.1,((a.2.2.2.2.1++b),a.2.2.2.2.2))))).2.2.2.2.2.1++g),(a.1,(a.2.1,(a.2.2.1,(a.2.2.2.1,((a.2.2.2.2.1++b),a.2.2.2.2.2))))).2.2.2.2.2.2)))))).1,(((a.1,(a.2.1,(a.2.2.1,(a.2.2.2.1,((a.2.2.2.2.1++b),a.2.2.2.2.2))))).1,((a.1,(a.2.1,(a.2.2.1,(a.2.2.2.1,((a.2.2.2.2.1++b),a.2.2.2.2.2))))).2.1,((a.1,(a.2.1,(a.2.2.1,(a.2.2.2.1,((a.2.2.2.2.1++b),a.2.2.2.2.2))))).2.2.1,((a.1,(a.2.1,(a.2.2.1,(a.2.2.2.1,((a.2.2.2.2.1++b),a.2.2.2.2.2))))).2.2.2.1,((a.1,(a.2.1,(a.2.2.1,(a.2.2.2.1,((a.2.2.2.2.1++b),a.2.2.2.2.2))))).2.2.2.2.1,(((a.1,(a.2.1,(a.2.2.1,(a.2.2.2.1,((a.2.2.2.2.1++b),a.2.2.2.2.2))))).2.2.2.2.2.1++g),(a.1,(a.2.1,(a.2.2.1,(a.2.2.2.1,((a.2.2.2.2.1++b),a.2.2.2.2.2))))).2.2.2.2.2.2)))))).2.1,(((a.1,(a.2.1,(a.2.2.1,(a.2.2.2.1,((a.2.2.2.2.1++b),a.2.2.2.2.2))))).1,((a.1,(a.2.1,(a.2.2.1,(a.2.2.2.1,((a.2.2.2.2.1++b),a.2.2.2.2.2))))).2.1,((a.1,(a.2.1,(a.2.2.1,(a.2.2.2.1,((a.2.2.2.2.1++b),a.2.2.2.2.2))))).2.2.1,((a.1,(a.2.1,(a.2.2.1,(a.2.2.2.1,((a.2.2.2.2.1++b),a.2.2.2.2.2))))).2.2.2.1,((a.1,(a.2.1,(a.2.2.1,(a.2.2.2.1,((a.2.2.2.2.1++b),a.2.2.2.2.2))))).2.2.2.2.1,(((a.1,(a.2.1,(a.2.2.1,(a.2.2.2.1,((a.2.2.2.2.1++b),a.2.2.2.2.2))))).2.2.2.2.2.1++g),(a.1,(a.2.1,(a.2.2.1,(a.2.2.2.1,((a.2.2.2.2.1++b),a.2.2.2.2.2))))).2.2.2.2.2.2)))))).2.2.1,((((a.1,(a.2.1,(a.2.2.1,(a.2.2.2.1,((a.2.2.2.2.1++b),a.2.2.2.2.2))))).1,((a.1,(a.2.1,(a.2.2.1,(a.2.2.2.1,((a.2.2.2.2.1++b),a.2.2.2.2.2))))).2.1,((a.1,(a.2.1,(a.2.2.1,(a.2.2.2.1,((a.2.2.2.2.1++b),a.2.2.2.2.2))))).2.2.1,((a.1,(a.2.1,(a.2.2.1,(a.2.2.2.1,((a.2.2.2.2.1++b),a.2.2.2.2.2))))).2.2.2.1,((a.1,(a.2.1,(a.2.2.1,(a.2.2.2.1,((a.2.2.2.2.1++b),a.2.2.2.2.2))))).2.2.2.2.1,(((a.1,(a.2.1,(a.2.2.1,(a.2.2.2.1,((a.2.2.2.2.1++b),a.2.2.2.2.2))))).2.2.2.2.2.1++g),(a.1,(a.2.1,(a.2.2.1,(a.2.2.2.1,((a.2.2.2.2.1++b),a.2.2.2.2.2))))).2.2.2.2.2.2)))))).2.2.2.1++[al (((a.1,(a.2.1,(a.2.2.1,(a.2.2.2.1,((a.2.2.2.2.1++b),a.2.2.2.2.2))))).1,((a.1,(a.2.1,(a.2.2.1,(a.2.2.2.1,((a.2.2.2.2.1++b),a.2.2.2.2.2))))).2.1,((a.1,(a.2.1,(a.2.2.1,(a.2.2.2.1,((a.2.2.2.2.1++b),a.2.2.2.2.2))))).2.2.1,((a.1,(a.2.1,(a.2.2.1,(a.2.2.2.1,((a.2.2.2.2.1++b),a.2.2.2.2.2))))).2.2.2.1,((a.1,(a.2.1,(a.2.2.1,(a.2.2.2.1,((a.2.2.2.2.1++b),a.2.2.2.2.2))))).2.2.2.2.1,(((a.1,(a.2.1,(a.2.2.1,(a.2.2.2.1,((a.2.2.2.2.1++b),a.2.2.2.2.2))))).2.2.2.2.2.1++g),(a.1,(a.2.1,(a.2.2.1,(a.2.2.2.1,((a.2.2.2.2.1++b),a.2.2.2.2.2))))).2.2.2.2.2.2)))))).2.2.2.2.1)]),((a.1,(a.2.1,(a.2.2.1,(a.2.2.2.1,((a.2.2.2.2.1++b),a.2.2.2.2.2))))).1,((a.1,(a.2.1,(a.2.2.1,(a.2.2.2.1,((a.2.2.2.2.1++b),a.2.2.2.2.2))))).2.1,((a.1,(a.2.1,(a.2.2.1,(a.2.2.2.1,((a.2.2.2.2.1++b),a.2.2.2.2.2))))).2.2.1,((a.1,(a.2.1,(a.2.2.1,(a.2.2.2.1,((a.2.2.2.2.1++b),a.2.2.2.2.2))))).2.2.2.1,((a.1,(a.2.1,(a.2.2.1,(a.2.2.2.1,((a.2.2.2.2.1++b),a.2.2.2.2.2))))).2.2.2.2.1,(((a.1,(a.2.1,(a.2.2.1,(a.2.2.2.1,((a.2.2.2.2.1++b),a.2.2.2.2.2))))).2.2.2.2.2.1++g),(a.1,(a.2.1,(a.2.2.1,(a.2.2.2.1,((a.2.2.2.2.1++b),a.2.2.2.2.2))))).2.2.2.2.2.2)))))).2.2.2.2)))),())) else
 Y (.inr (U,H,E,()))) (0,T,ce,D,())).bind λ(d5,cv,bl,_)=>Y (.inl (aP k,d5,cv,bl,())) else Y (.inr (T,D,()))) (0,d7,c2,bx,())).bind λ(_,bs,_)=>Y (bs,())
def pZ:(pI×aA×bm pG×bt)->bv (eH×Z×bt):=λ(n,g,d,_)=>(w9 (n,g,d,())).bind λ(A,_)=>(bif A !=0 then Y ((([]:aA),(([]:aA),(([]:aA),(([]:aA),(([]:aA),(([]:aA),((0:Z),()))))))),A,()) else((loop (σ:=(Z×bA×Z×eH×bm dg×bm hd×bt)) (ρ:=((Z×eH×bm hd×bt)⊕(eH×Z×bt))) (λ(o,F,c,B,p,u,_)=>bif br (c<al d) then(DA (n,g,d,c,p,())).bind λ(w,_)=>bif br (al w.1>64) then Y (.inr (.inr ((([]:aA),(([]:aA),(([]:aA),(([]:aA),(([]:aA),(([]:aA),((0:Z),()))))))),6,()))) else(loop (σ:=(bA×eH×bm dg×bm hd×dg×bt)) (ρ:=(bA×eH×bm dg×bm hd×dg×bt)) (λ(h,k,e,i,a,_)=>bif !h then(zS (a,())).bind λ(x,K,_)=>bB (α:=(bA×eH×bm dg×bm hd×dg×bt)) (bif !K then Y (bp,k,e,i,a,()) else
 Y (h,k,e,i,a,())) λ(r,l,f,j,b,_)=>bw (al x==0) (Y (.inr (r,l,f,j,b,()))) ((xa (b,x,())).bind λ(y,z,L,_)=>bB (α:=(bA×eH×bm dg×bm hd×dg×dg×hd×bt)) (bw (!L) (Y (bp,l,f,j,b,y,z,())) (Y (r,l,f,j,b,y,z,()))) λ(E,N,D,v,_,P,t,_)=>(cC (v.length+([t]).length)).bind λ_=>Y (.inl (E,N,D,(v++[t]),P,()))) else Y (.inr (h,k,e,i,a,()))) (F,B,p,u,w,())).bind λ(s,O,q,G,m,_)=>bw s (Y (.inr (.inr ((([]:aA),(([]:aA),(([]:aA),(([]:aA),(([]:aA),(([]:aA),((0:Z),()))))))),233,())))) ((cC (q.length+([m]).length)).bind λ_=>Y (.inl (ax (o+m.2.1),s,aP c,O,(q++[m]),G,()))) else
 Y (.inr (.inl (o,B,u,())))) (0,bq,0,([],([],([],([],([],([],((0:Z),()))))))),[],[],())).bind λI=>match I with
 |.inl (C,_,H,_)=>((DB (g,H,C,())).bind λ(M,_)=>Y (M,0,()))
 |.inr J=>Y J))
def zv:(eH×eH×bt)->bv kr:=λ(a,b,_)=>(q0 (a.1,b.1,())).bind λ(c,_)=>(bw (c==bp) ((q0 (a.2.1,b.2.1,())).bind λ(aJ,_)=>bw (aJ==bp) ((zx (a.2.2.1,b.2.2.1,())).bind λ(d,_)=>bw (d==bp) ((q0 (a.2.2.2.1,b.2.2.2.1,())).bind λ(e,_)=>bw (e==bp) ((q0 (a.2.2.2.2.1,b.2.2.2.2.1,())).bind λ(f,_)=>bw (f==bp) ((zx (a.2.2.2.2.2.1,b.2.2.2.2.2.1,())).bind λ(g,_)=>bw (g==bp) (Y ((a.2.2.2.2.2.2.1==b.2.2.2.2.2.2.1),())) (Y (bq,()))) (Y (bq,()))) (Y (bq,()))) (Y (bq,()))) (Y (bq,()))) (Y (bq,())))
def Md:bt->bv (pI×bt):=λ_=>Y ((2,(2,([0,1,1],([1],([4607182418800017408],()))))),())
def CE:jA->bv kr:=λ(a,_)=>(fV (al a) (al a)).bind λg=>(loop (σ:=(Z×fD×bt)) (ρ:=(bt⊕kr)) (λ(e,f,_)=>bif br (e<al a) then(bB (α:=(fD×bt)⊕((Z×fD×bt)⊕(bt⊕kr))) ((ao a e).bind λd=>bB (α:=(fD×bt)⊕((fD×bt)⊕((Z×fD×bt)⊕(bt⊕kr)))) (bw (br (d<0)==bq) (bw (br (d>=al a)==bq) (rd f d λj=>bw j (Y (.inr (.inr (.inr (.inr (bq,())))))) (Y (.inl (f,())))) (Y (.inr (.inr (.inr (.inr (bq,()))))))) (Y (.inr (.inr (.inr (.inr (bq,()))))))) λb=>match b with
 |.inl (i,_)=>(wr i d bp λk=>Y (.inl (k,())))
 |.inr c=>Y c) λb=>match b with
 |.inl (h,_)=>(Y (.inl (aP e,h,())))
 |.inr c=>Y c) else Y (.inr (.inl ()))) (0,bJ g bq,())).bind λb=>match b with
 |.inl _=>(Y (bp,()))
 |.inr c=>Y c
def CF:(eH×bt)->bv (aA×bA×bt):=λ(b,_)=>(loop (σ:=(Z×Z×Z×aA×bt)) (ρ:=((Z×Z×aA×bt)⊕(aA×bA×bt))) (λ(a,h,g,e,_)=>bif br (g<al b.2.1) then(bB (α:=(Z×Z×aA×bt)⊕((Z×Z×Z×aA×bt)⊕((Z×Z×aA×bt)⊕(aA×bA×bt)))) ((ao b.2.1 g).bind λf=>bB (α:=jA⊕((Z×Z×aA×bt)⊕((Z×Z×Z×aA×bt)⊕((Z×Z×aA×bt)⊕(aA×bA×bt))))) (bB (α:=(bA×aA×bt)) (bw ((f !=1)==bp) (bw ((f !=2)==bq) (Y (br (a>=al b.1),e,())) (Y (bp,e,()))) (Y (br (a>=al b.1),e,()))) λ(q,o,_)=>bw q (Y (.inr (.inr (.inr (.inr ([],bq,())))))) (Y (.inl (o,())))) λc=>match c with
 |.inl (i,_)=>((cC (i.length+([a]).length)).bind λ_=>Y (.inl (ax (a+f),ax (h+ax (ax (2*f)-1)),(i++[a]),())))
 |.inr d=>Y d) λc=>match c with
 |.inl (k,m,p,_)=>(Y (.inl (k,m,aP g,p,())))
 |.inr d=>Y d) else Y (.inr (.inl (a,h,e,())))) (0,0,0,[],())).bind λc=>match c with
 |.inl (l,n,j,_)=>(bw ((l==al b.1)==bp) (Y (j,(n==al b.2.2.1),())) (Y (j,bq,())))
 |.inr d=>Y d
def Cw:(eH×aA×bt)->bv kr:=λ(a,j,_)=>bB (α:=bt⊕kr) ((ao a.2.2.2.1 0).bind λt=>bw ((t !=0)==bq) ((ao a.2.2.2.1 (al a.1)).bind λu=>bw (u !=al a.2.2.2.2.1) (Y (.inr (bq,()))) (Y (.inl ()))) (Y (.inr (bq,())))) λb=>match b with
 |.inl _=>((loop (σ:=eX) (ρ:=(bt⊕kr)) (λ(f,_)=>bif br (f<al j) then((ao j f).bind λi=>(ao a.2.1 f).bind λm=>(loop (σ:=eX) (ρ:=(bt⊕(eX⊕(bt⊕kr)))) (λ(d,_)=>bif br (d<=ax (ax (i+m)-1)) then(bB (α:=bt⊕pH) (bB (α:=bt⊕(bt⊕pH)) ((ao a.2.2.2.1 d).bind λv=>(ao a.2.2.2.1 (aP d)).bind λp=>bw (br (v>p)==bq) ((ao a.2.2.2.1 (aP d)).bind λq=>bw (br (q>al a.2.2.2.2.1)) (Y (.inr (.inr (.inr (.inr (.inr (.inr (bq,())))))))) (Y (.inl ()))) (Y (.inr (.inr (.inr (.inr (.inr (.inr (bq,()))))))))) λb=>match b with
 |.inl _=>((ao a.2.2.2.1 d).bind λr=>(ao a.2.2.2.1 (aP d)).bind λs=>((gu r).bind λk=>(gu s).bind λl=>(g9 k l (a.2.2.2.2.1).length).map λ_=>(k,l)).bind λe=>(loop (σ:=wm) (ρ:=(bt⊕(bt⊕pH))) (λ(n,g,_)=>bif br (g<al (((a.2.2.2.2.1).take e.2).drop e.1)) then(bB (α:=eX⊕(wm⊕(bt⊕(bt⊕pH)))) ((ao (((a.2.2.2.2.1).take e.2).drop e.1) g).bind λh=>bB (α:=bt⊕(eX⊕(wm⊕(bt⊕(bt⊕pH))))) (bw (br (h<=n)==bq) (bw (br (h>=al a.1)) (Y (.inr (.inr (.inr (.inr (.inr (.inr (.inr (.inr (.inr (bq,()))))))))))) (Y (.inl ()))) (Y (.inr (.inr (.inr (.inr (.inr (.inr (.inr (.inr (.inr (bq,())))))))))))) λb=>match b with
 |.inl _=>(Y (.inl (h,())))
 |.inr c=>Y c) λb=>match b with
 |.inl (o,_)=>(Y (.inl (o,aP g,())))
 |.inr c=>Y c) else Y (.inr (.inl ()))) (ax (ax (i+m)-1),0,())).bind λb=>match b with
 |.inl _=>(Y (.inl ()))
 |.inr c=>Y c)
 |.inr c=>Y c) λb=>match b with
 |.inl _=>(Y (.inl (aP d,())))
 |.inr c=>Y c) else Y (.inr (.inl ()))) (i,())).bind λb=>match b with
 |.inl _=>(Y (.inl (aP f,())))
 |.inr c=>Y c) else Y (.inr (.inl ()))) (0,())).bind λb=>match b with
 |.inl _=>(Y (bp,()))
 |.inr c=>Y c)
 |.inr c=>Y c
def zi:(eH×bt)->bv (e2×bt):=λ(c,_)=>(loop (σ:=(Z×Z×e2×bt)) (ρ:=(e2×bt)) (λ(k,d,f,_)=>bw (br (d<al c.2.1)) ((ao c.2.1 d).bind λn=>(loop (σ:=(Z×Z×e2×ga×bt)) (ρ:=(Z×e2×ga×bt)) (λ(a,j,g,b,_)=>bw (br (j<ax (ax (2*n)-1))) ((ao c.2.2.1 a).bind λo=>(jT (o,())).bind λ(i,_)=>(cC (b.length+([i]).length)).bind λ_=>Y (.inl (aP a,aP j,g,(b++[i]),()))) (Y (.inr (a,g,b,())))) (k,0,f,[],())).bind λ(l,h,e,_)=>(cC (h.length+([e]).length)).bind λ_=>Y (.inl (l,aP d,(h++[e]),()))) (Y (.inr (f,())))) (0,0,[],())).bind λ(m,_)=>Y (m,())
def Cs:(eH×bt)->bv eX:=λ(a,_)=>bB (α:=bt⊕eX) (bw (br (al a.1>200)) (Y (.inr (6,()))) ((CE (a.1,())).bind λ(n,_)=>bw (!n) (Y (.inr (90,()))) (bw ((al a.2.2.2.1 !=aP (al a.1))==bq) (bw (al a.2.2.2.2.1 !=al a.2.2.2.2.2.1) (Y (.inr (2,()))) (Y (.inl ()))) (Y (.inr (2,())))))) λb=>match b with
 |.inl _=>((CF (a,())).bind λ(q,aJ,_)=>bB (α:=bt⊕eX) (bw ((!aJ)==bq) (bw (br (a.2.2.2.2.2.2.1<0)==bq) ((Cw (a,q,())).bind λ(r,_)=>bw (!r) (Y (.inr (240,()))) (Y (.inl ()))) (Y (.inr (240,())))) (Y (.inr (240,())))) λb=>match b with
 |.inl _=>((loop (σ:=(Z×bm aA×bt)) (ρ:=(bt⊕eX)) (λ(g,j,_)=>bif br (g<al ([a.2.2.2.2.2.1,a.2.2.1])) then(rd j g λk=>(loop (σ:=(Z×bm aA×bt)) (ρ:=((bm aA×bt)⊕((Z×bm aA×bt)⊕(bt⊕eX)))) (λ(d,i,_)=>bw (br (d<al k)) ((ao k d).bind λu=>(nz (u,())).bind λ(m,_)=>bw (!m) (Y (.inr (.inr (.inr (.inr (4,())))))) (Y (.inl (aP d,i,())))) (Y (.inr (.inl (i,()))))) (0,j,())).bind λb=>match b with
 |.inl (s,_)=>(Y (.inl (aP g,s,())))
 |.inr c=>Y c) else Y (.inr (.inl ()))) (0,[a.2.2.2.2.2.1,a.2.2.1],())).bind λb=>match b with
 |.inl _=>((zi (a,())).bind λ(h,_)=>(loop (σ:=(Z×e2×bt)) (ρ:=(bt⊕eX)) (λ(e,f,_)=>bif br (e<al h) then(bB (α:=(e2×bt)⊕((Z×e2×bt)⊕(bt⊕eX))) (rd f e λl=>bw ((al l==3)==bp) ((wU (l,())).bind λ(o,_)=>(mR (o,())).bind λ(p,_)=>bw (p==0) (Y (.inr (.inr (.inr (4,()))))) (Y (.inl (f,())))) (Y (.inl (f,())))) λb=>match b with
 |.inl (t,_)=>(Y (.inl (aP e,t,())))
 |.inr c=>Y c) else Y (.inr (.inl ()))) (0,h,())).bind λb=>match b with
 |.inl _=>(Y (0,()))
 |.inr c=>Y c)
 |.inr c=>Y c)
 |.inr c=>Y c)
 |.inr c=>Y c
def Cu:(eH×bt)->bv (oP×Z×bt):=λ(j,_)=>(Cs (j,())).bind λ(l,_)=>(bif l !=0 then Y (((0:Z),((0:Z),((0:Z),()))),l,()) else(zi (j,())).bind λ(m,_)=>(loop (σ:=(Z×oP×oP×e2×bt)) (ρ:=(oP×oP×bt)) (λ(h,c,a,d,_)=>bif br (h<al m) then bB (α:=(oP×oP×e2×bt)) (rd d h λi=>(ao i 0).bind λv=>(mR (v,())).bind λ(k,_)=>bB (α:=(Z×oP×oP×e2×bt)⊕(oP×oP×e2×bt)) (bw (al i==3) ((wU (i,())).bind λ(r,_)=>(mR (r,())).bind λ(s,_)=>bw (br (s<0)) (Y (.inr (c,((aP a.1,a.2).1,((aP a.1,a.2).2.1,(ax ((aP a.1,a.2).2.2.1+1),(aP a.1,a.2).2.2.2))),d,()))) (Y (.inl (2,c,a,d,())))) (Y (.inl (1,c,a,d,())))) λp=>match p with
 |.inl (e,f,b,g,_)=>(bw (br (k<0)) (Y (f,(ax (b.1+e),b.2),g,())) (bw (br (k>0)) (Y (f,(b.1,(b.2.1,(ax (b.2.2.1+e),b.2.2.2))),g,())) (Y (f,(b.1,(ax (b.2.1+e),b.2.2)),g,()))))
 |.inr q=>Y q) λ(t,n,u,_)=>Y (.inl (aP h,t,n,u,())) else Y (.inr (c,a,()))) (0,((0:Z),((0:Z),((0:Z),()))),((0:Z),((0:Z),((0:Z),()))),m,())).bind λ(_,o,_)=>Y (o,0,()))
def CB:(c4×Z×Z×bt)->bv (c4×bm eE×Z×bt):=λ(a,j,k,_)=>(zn (Y a,())).bind λ(b,_)=>(jT (k,())).bind λ(c,_)=>(mR (c,())).bind λ(l,_)=>(bw (l==0) ((qY (1,())).bind λ(m,_)=>(GS (Y a,b,(),m,())).bind λ(n,d,e,_)=>bw (e !=0) (Y (a,[],e,())) ((oW (d,c,())).bind λ(o,_)=>(pW (a,b,o,d,())).bind λ(h,_)=>Y (h,[n],0,()))) ((GU (Y a,b,(Y (Y a),Y j,()),c,())).bind λ(p,f,g,_)=>bw (g !=0) (Y (a,[],g,())) ((oW (f,c,())).bind λ(q,_)=>(pW (a,b,q,f,())).bind λ(i,_)=>Y (i,[p],0,()))))
def zl:(Z×Z×Z×cV×cV×bv (bv c4)×bt)->bv (cV×bt):=λ(a,c,d,h,i,b,_)=>b.bind λo=>o.bind λp=>(ao p.2.2.2.1 a).bind λq=>(ao q c).bind λj=>(ny (j,h,())).bind λ(e,_)=>b.bind λk=>k.bind λl=>(ao l.2.2.2.1 a).bind λm=>(ao m d).bind λn=>(ny (n,i,())).bind λ(f,_)=>(wL (e,f,())).bind λ(g,_)=>Y (g,())
def Cz:(Z×bv (bv (bv c4)×bt)×ah9×ah9×bv ga×bt)->bv (cV×bt):=λ(b,c,d,e,a,_)=>c.bind λj=>d.bind λk=>e.bind λl=>a.bind λm=>(ao m 2).bind λg=>a.bind λh=>(ao h 1).bind λi=>(zl (b,k,l,g,i,j.1,())).bind λ(f,_)=>Y (f,())
def GV:(bv c4×aA×(bv (bv (bv c4)×bt)×ah9×ah9×bv ga×bt)×cV×bt)->bv (eE×ga×Z×bt):=λ(r,g,b,q,_)=>(loop (σ:=(Z×eE×eE×ga×bt)) (ρ:=((eE×eE×ga×bt)⊕(eE×ga×Z×bt))) (λ(f,i,a,e,_)=>bif br (f<al g) then(ao g f).bind λj=>(Cz (j,b.1,b.2.1,b.2.2.1,b.2.2.2.1,())).bind λ(o,_)=>(ss (o,q,0,())).bind λ(c,_)=>(nz (c,())).bind λ(p,_)=>bw (!p) (Y (.inr (.inr (a,[],233,())))) (r.bind λs=>(ao s.1 j).bind λd=>(cC ((a.1).length+([d]).length)).bind λ_=>(cC ((a.2.1).length+([c]).length)).bind λ_=>(jT (c,())).bind λ(h,_)=>(cC (e.length+([h]).length)).bind λ_=>Y (.inl (aP f,i,(((a.1++[d]),a.2).1,((((a.1++[d]),a.2).2.1++[c]),((a.1++[d]),a.2).2.2)),(e++[h]),()))) else
 Y (.inr (.inl (i,a,e,())))) (0,([],([],())),([],([],())),[],())).bind λm=>match m with
 |.inl (_,k,l,_)=>(Y (k,l,0,()))
 |.inr n=>Y n
def CA:(Z×bv (bv (bv c4)×bt)×ah9×ah9×bv ga×bt)->bv (cV×bt):=λ(b,c,d,e,a,_)=>c.bind λj=>d.bind λk=>e.bind λl=>a.bind λm=>(ao m 0).bind λg=>a.bind λh=>(ao h 1).bind λi=>(zl (b,k,l,g,i,j.1,())).bind λ(f,_)=>Y (f,())
def GW:(bv c4×aA×(bv (bv (bv c4)×bt)×ah9×ah9×bv ga×bt)×cV×bt)->bv (eE×ga×Z×bt):=λ(r,g,b,q,_)=>(loop (σ:=(Z×eE×eE×ga×bt)) (ρ:=((eE×eE×ga×bt)⊕(eE×ga×Z×bt))) (λ(f,i,a,e,_)=>bif br (f<al g) then(ao g f).bind λj=>(CA (j,b.1,b.2.1,b.2.2.1,b.2.2.2.1,())).bind λ(o,_)=>(ss (o,q,0,())).bind λ(c,_)=>(nz (c,())).bind λ(p,_)=>bw (!p) (Y (.inr (.inr (a,[],233,())))) (r.bind λs=>(ao s.1 j).bind λd=>(cC ((a.1).length+([d]).length)).bind λ_=>(cC ((a.2.1).length+([c]).length)).bind λ_=>(jT (c,())).bind λ(h,_)=>(cC (e.length+([h]).length)).bind λ_=>Y (.inl (aP f,i,(((a.1++[d]),a.2).1,((((a.1++[d]),a.2).2.1++[c]),((a.1++[d]),a.2).2.2)),(e++[h]),()))) else
 Y (.inr (.inl (i,a,e,())))) (0,([],([],())),([],([],())),[],())).bind λm=>match m with
 |.inl (_,k,l,_)=>(Y (k,l,0,()))
 |.inr n=>Y n
def zk:(c4×Z×Z×aA×bt)->bv (c4×bm eE×Z×bt):=λ(a,i,m,h,_)=>(zn (Y a,())).bind λ(e,_)=>(ao h 0).bind λx=>(jT (x,())).bind λ(b,_)=>(ao h 1).bind λy=>(jT (y,())).bind λ(c,_)=>(ao h 2).bind λz=>(jT (z,())).bind λ(d,_)=>(wU ([b,c,d],())).bind λ(j,_)=>(GV (Y a,e,(Y (Y (Y a),()),Y i,Y m,Y [b,c,d],()),j,())).bind λ(r,f,k,_)=>(bif k !=0 then Y (a,[],k,()) else(GW (Y a,e,(Y (Y (Y a),()),Y m,Y i,Y [b,c,d],()),j,())).bind λ(s,g,l,_)=>bif l !=0 then Y (a,[],l,()) else(ao [b,c,d] 0).bind λA=>(oW (f,A,())).bind λ(t,_)=>(pW (a,e,t,f,())).bind λ(n,_)=>(ao [b,c,d] 1).bind λB=>(oW (f,B,())).bind λ(u,_)=>
 (pW (n,e,u,g,())).bind λ(o,_)=>(ao [b,c,d] 1).bind λC=>(oW (g,C,())).bind λ(v,_)=>(pW (o,e,v,f,())).bind λ(p,_)=>(ao [b,c,d] 2).bind λD=>(oW (g,D,())).bind λ(w,_)=>(pW (p,e,w,g,())).bind λ(q,_)=>Y (q,[r,s],0,()))
def CH:((bv (Z×((bm aA×bt)×(bm (bv (bm (Z×cV)×X))×bt)))×(aA×(aA×(aA×(bm eE×eX)))))×c4×aA×bt)->bv ((bv (Z×((bm aA×bt)×(bm (bv (bm (Z×cV)×X))×bt)))×(aA×(aA×(aA×(bm eE×eX)))))×c4×Z×bt):=λ(C,D,b,_)=>(loop (σ:=(Z×(bv (Z×((bm aA×bt)×(bm (bv (bm (Z×cV)×X))×bt)))×(aA×(aA×(aA×(bm eE×eX)))))×c4×aA×bt)) (ρ:=((bv (Z×((bm aA×bt)×(bm (bv (bm (Z×cV)×X))×bt)))×(aA×(aA×(aA×(bm eE×eX)))))×c4×aA×bt)) (λ(d,o,r,l,_)=>bif br (d<al b) then(loop (σ:=(Z×(bv (Z×((bm aA×bt)×(bm (bv (bm (Z×cV)×X))×bt)))×(aA×(aA×(aA×(bm eE×eX)))))×c4×aA×bt)) (ρ:=((bv (Z×((bm aA×bt)×(bm (bv (bm (Z×cV)×X))×bt)))×(aA×(aA×(aA×(bm eE×eX)))))×c4×aA×bt)) (λ(i,p,j,h,_)=>bif br (i<aP d) then(ao b d).bind λF=>
 (ao b i).bind λG=>(sw (Y j,F,G,())).bind λ(n,_)=>(cC (h.length+([n]).length)).bind λ_=>Y (.inl (aP i,p,j,(h++[n]),())) else Y (.inr (p,j,h,()))) (0,o,r,l,())).bind λ(g,e,u,_)=>(ao b d).bind λH=>(bj (e.2.2.1).length H).bind λm=>((((a9 e.2.2.1 m λ_=>Y ((e.2.2.1).set m bq)).map λN=>(N,e.2.2.2)).map λO=>(e.2.1,O)).map λP=>(e.1,P)).bind λt=>(ao b d).bind λI=>rd t.1 I λs=>(cC ((g.2.1).length+([s]).length)).bind λ_=>Y (.inl (aP d,(g.1,((g.2.1++[s]),g.2.2)),t,u,())) else Y (.inr (o,r,l,()))) (0,C,D,[],())).bind λ(a,q,f,_)=>(cC ((a.2.2.1).length+([al b]).length)).bind λ_=>(cC (((a.1,(a.2.1,((a.2.2.1++[al b]),a.2.2.2))).2.2.2.1).length+f.length)).bind λ_=>bB (α:=(Z×bm eE×(bv (Z×((bm aA×bt)×(bm (bv (bm (Z×cV)×X))×bt)))×(aA×(aA×(aA×(bm eE×eX)))))×c4×bt)) (bw (al b==1) ((ao b 0).bind λJ=>rd f 0 λK=>(CB (q,J,K,())).bind λ(w,y,z,_)=>Y (z,y,((a.1,(a.2.1,((a.2.2.1++[al b]),a.2.2.2))).1,((a.1,(a.2.1,((a.2.2.1++[al b]),a.2.2.2))).2.1,((a.1,(a.2.1,((a.2.2.1++[al b]),a.2.2.2))).2.2.1,(((a.1,(a.2.1,((a.2.2.1++[al b]),a.2.2.2))).2.2.2.1++f),(a.1,(a.2.1,((a.2.2.1++[al b]),a.2.2.2))).2.2.2.2)))),w,())) ((ao b 0).bind λL=>(ao b 1).bind λM=>(zk (q,L,M,f,())).bind λ(x,A,B,_)=>Y (B,A,((a.1,(a.2.1,((a.2.2.1++[al b]),a.2.2.2))).1,((a.1,(a.2.1,((a.2.2.1++[al b]),a.2.2.2))).2.1,((a.1,(a.2.1,((a.2.2.1++[al b]),a.2.2.2))).2.2.1,(((a.1,(a.2.1,((a.2.2.1++[al b]),a.2.2.2))).2.2.2.1++f),(a.1,(a.2.1,((a.2.2.1++[al b]),a.2.2.2))).2.2.2.2)))),x,()))) λ(v,k,c,E,_)=>(cC ((c.2.2.2.2.1).length+k.length)).bind λ_=>Y ((c.1,(c.2.1,(c.2.2.1,(c.2.2.2.1,((c.2.2.2.2.1++k),c.2.2.2.2.2))))),E,v,())
def CJ:((bv (Z×((bm aA×bt)×(bm (bv (bm (Z×cV)×X))×bt)))×(aA×(aA×(aA×(bm eE×eX)))))×c4×bt)->bv ((bv (Z×((bm aA×bt)×(bm (bv (bm (Z×cV)×X))×bt)))×(aA×(aA×(aA×(bm eE×eX)))))×c4×Z×bt):=λ(n,s,_)=>(loop (σ:=((bv (Z×((bm aA×bt)×(bm (bv (bm (Z×cV)×X))×bt)))×(aA×(aA×(aA×(bm eE×eX)))))×c4×bt)) (ρ:=(((bv (Z×((bm aA×bt)×(bm (bv (bm (Z×cV)×X))×bt)))×(aA×(aA×(aA×(bm eE×eX)))))×c4×bt)⊕((bv (Z×((bm aA×bt)×(bm (bv (bm (Z×cV)×X))×bt)))×(aA×(aA×(aA×(bm eE×eX)))))×c4×Z×bt))) (λ(d,c,_)=>(Cy (Y c,())).bind λ(h,i,_)=>bw (i !=0) (Y (.inr (.inr (d,c,i,())))) (bw (al h==0) (Y (.inr (.inl (d,c,())))) ((CH (d,c,h,())).bind λ(f,g,j,_)=>bw (j !=0) (Y (.inr (.inr (f,g,j,())))) (Y (.inl (f,g,())))))) (n,s,())).bind λl=>match l with
 |.inl (o,k,_)=>((loop (σ:=(Z×(bv (Z×((bm aA×bt)×(bm (bv (bm (Z×cV)×X))×bt)))×(aA×(aA×(aA×(bm eE×eX)))))×c4×bt)) (ρ:=((bv (Z×((bm aA×bt)×(bm (bv (bm (Z×cV)×X))×bt)))×(aA×(aA×(aA×(bm eE×eX)))))×c4×bt)) (λ(e,a,b,_)=>bw (br (e<k.2.1)) (bB (α:=((bv (Z×((bm aA×bt)×(bm (bv (bm (Z×cV)×X))×bt)))×(aA×(aA×(aA×(bm eE×eX)))))×c4×bt)) (rd b.2.2.1 e λu=>bw u (Y ((a.1,(a.2.1,(a.2.2.1,(a.2.2.2.1,(a.2.2.2.2.1,(aP a.2.2.2.2.2.1,a.2.2.2.2.2.2)))))),b,())) (Y (a,b,()))) λ(p,r,_)=>Y (.inl (aP e,p,r,()))) (Y (.inr (a,b,())))) (0,o,k,())).bind λ(q,t,_)=>Y (q,t,0,()))
 |.inr m=>Y m
def oV:(pI×aA×bm pG×bt)->bv (eH×Z×bt):=λ(x,o,b,_)=>(sI (x,o,())).bind λ(i,p,_)=>(bif p !=0 then Y ((([]:aA),(([]:aA),(([]:aA),(([]:aA),(([]:aA),(([]:aA),((0:Z),()))))))),p,()) else i.bind λM=>(uN (M.2.1,b,())).bind λ(q,_)=>bif q !=0 then Y ((([]:aA),(([]:aA),(([]:aA),(([]:aA),(([]:aA),(([]:aA),((0:Z),()))))))),q,()) else(CV (b,(),())).bind λ(E,_)=>bif E then Y ((([]:aA),(([]:aA),(([]:aA),(([]:aA),(([]:aA),(([]:aA),((0:Z),()))))))),6,()) else((fV (al b) (al b)).bind λD=>(loop (σ:=(Z×eH×(bv (Z×((bm aA×bt)×(bm (bv (bm (Z×cV)×X))×bt)))×(aA×(aA×(aA×(bm eE×eX)))))×bm (bm (bv c4))×bt)) (ρ:=((eH×(bv (Z×((bm aA×bt)×(bm (bv (bm (Z×cV)×X))×bt)))×(aA×(aA×(aA×(bm eE×eX)))))×bt)⊕(eH×Z×bt))) (λ(d,k,j,e,_)=>
 bif br (d<al b) then(bB (α:=(eH×(bv (Z×((bm aA×bt)×(bm (bv (bm (Z×cV)×X))×bt)))×(aA×(aA×(aA×(bm eE×eX)))))×bm (bm (bv c4))×bt)⊕((Z×eH×(bv (Z×((bm aA×bt)×(bm (bv (bm (Z×cV)×X))×bt)))×(aA×(aA×(aA×(bm eE×eX)))))×bm (bm (bv c4))×bt)⊕((eH×(bv (Z×((bm aA×bt)×(bm (bv (bm (Z×cV)×X))×bt)))×(aA×(aA×(aA×(bm eE×eX)))))×bt)⊕(eH×Z×bt)))) ((ao b d).bind λl=>rd e d λw=>(Cv (i,l,w,())).bind λ(r,s,_)=>bB (α:=(Z×eH×(bv (Z×((bm aA×bt)×(bm (bv (bm (Z×cV)×X))×bt)))×(aA×(aA×(aA×(bm eE×eX)))))×bm (bm (bv c4))×pG×c4×bt)) (bw (s==0) ((CJ (j,r,())).bind λ(B,C,F,_)=>Y (F,k,B,e,l,C,())) (Y (s,k,j,e,l,r,()))) λ(m,u,t,a,f,v,_)=>bif m !=0 then
 Y (.inr (.inr (.inr ((([]:aA),(([]:aA),(([]:aA),(([]:aA),(([]:aA),(([]:aA),((0:Z),()))))))),m,())))) else bw (br (f.2.2.2.1>=0)) ((bj a.length f.2.2.2.1).bind λn=>(a9 a n λz=>Y z).bind λK=>(cC (K.length+([Y v]).length)).bind λ_=>(bj a.length f.2.2.2.1).bind λc=>bw (bH n c&&bp) ((a9 a c λA=>Y A).bind λL=>(a9 a c λ_=>Y (a.set c (L++[Y v]))).bind λN=>Y (.inl (u,t,N,()))) bo) (Y (.inl (u,t,a,())))) λg=>match g with
 |.inl (J,H,y,_)=>(Y (.inl (aP d,J,H,y,())))
 |.inr h=>Y h) else Y (.inr (.inl (k,j,())))) (0,([],([],([],([],([],([],((0:Z),()))))))),(i,(([]:aA),(([]:aA),(([]:aA),(([]:bm eE),((0:Z),())))))),bJ D [],())).bind λg=>match g with
 |.inl (_,I,_)=>((CI (Y I,o,())).bind λ(G,_)=>Y (G,0,()))
 |.inr h=>Y h))
def C7:bt->bv kr:=λ_=>(Md ()).bind λ(b,_)=>(oV (b,[0,1],[(0,(2,([0,1],((-1:Z),()))))],())).bind λ(a,c,_)=>(Cu (a,())).bind λ(aJ,d,_)=>(bw ((c==0)==bp) (bw ((d==0)==bp) ((q0 (a.2.1,[2],())).bind λ(e,_)=>bw (e==bp) (Y ((((aJ).1==(1,((0:Z),(1,()))).1)&&(((aJ).2.1==(1,((0:Z),(1,()))).2.1)&&(((aJ).2.2.1==(1,((0:Z),(1,()))).2.2.1)&&bp))),())) (Y (bq,()))) (Y (bq,()))) (Y (bq,())))
def G9:(aA×Z×Z×bA×aA×bt)->bv kr:=λ(s,g,t,f,e,_)=>(C8 (s,g,t,f,())).bind λ(a,b,d,_)=>(oV (a,b,d,())).bind λ(r,h,_)=>(pZ (a,b,d,())).bind λ(i,j,_)=>(uC (a,b,e,())).bind λ(c,_)=>(oV (a,b,c,())).bind λ(k,l,_)=>(pZ (a,b,c,())).bind λ(m,n,_)=>(bw ((h==j)==bp) ((zv (r,i,())).bind λ(o,_)=>bw (o==bp) (bw ((l==n)==bp) ((zv (k,m,())).bind λ(p,_)=>bw (p==bp) ((C7 ()).bind λ(q,_)=>Y (q,())) (Y (bq,()))) (Y (bq,()))) (Y (bq,()))) (Y (bq,())))
end Go.jg
section
namespace Go.Proofs
open Go.RowKit Go.Shelf Go.Sort
attribute [local go_sem] Oper.semAt_some
def Tryz.WN:Go.Shelf.Ren:=⟨λ|20=>295|n=>n,λ|22=>23|3=>3|4=>4|0=>0|n=>n,λ|n=>n⟩
def Tryz.NG:Lays2.n20 cp Tryz.WN where
 mixed:=by kernel_rfl
 f20:=Tryz.func295.trans (b4 Y (by kernel_rfl))
 t0:=Tryz.underlying0
 a0:=Tryz.isAgg0
 z0:=Tryz.sizeOf0
 v0:=Tryz.zeroValue0
 t3:=Tryz.underlying3
 a3:=Tryz.isAgg3
 z3:=Tryz.sizeOf3
 v3:=Tryz.zeroValue3
 t4:=Tryz.underlying4
 a4:=Tryz.isAgg4
 z4:=Tryz.sizeOf4
 v4:=Tryz.zeroValue4
 t22:=amG
 a22:=Tryz.isAgg23
 z22:=Tryz.sizeOf23
 v22:=Tryz.zeroValue23
 i3:=by kernel_rfl
namespace K0
def mE {a:Type} (b:X->a) (c:X):bm a:=(bI c).map b
def Rw {c:Type} (a:X->c) (b:X):mE a (b+1)=mE a b++[a b]:=by simp[mE,i7]
def aef {c:Type} (b:X->c) (a:X):(mE b a).length=a:=by simp[mE]
def aee (a:aif):mE (λc=>a[c]?.getD 0) a.length=a:=by
 apply yv
 ·simp[mE]
 intro e d b;simp[mE,b]
set_option maxRecDepth 100000 in
set_option maxHeartbeats 2000000 in
def aeq (j:ajf) (m:X) (A:j.fn 317) (K:j.round=bo) (T:1<=m) (v q n h k b x:X) (g:aif) (U:b*8<=140737488351232) (F:h<n) (J r:aif->bC->Prop) (E:∀e o c,J e c->e.length<b->YieldAt j (m-1) cp v #[.int .i64 o] c λi f=>
  (i=.returned (.bool bp)/\J (e++[o]) f/\Below n c f)\/(i=.returned (.bool bq)/\r (e++[o]) f))
 (c:bC) (Q:c.cell? ⟨q,0,bo⟩=Y (.slice (Y ⟨h,k,bo⟩) b x)) (G:∀d,d<b->c.cell? ⟨h,k+d,bo⟩=Y (.int .i64 (g[d]?.getD 0))) (z:J [] c):
 ai7 j m cp 317 #[.func (.yield v) #[] #[],.pointer (Y ⟨q,0,bo⟩)] c λi f=>(∃L,i=.returned L)/\((∃w,w=mE (λd=>g[d]?.getD 0) b/\J w f)\/(∃e,(∃a,a<=b/\e=mE (λd=>g[d]?.getD 0) a)/\r e f)):=by
 refine ajW alV bn A ?_ K;simp only[amH,tP,i5,oH,ajx,ajy,vT,vU,wc,v7,ir,nY]
 gi_wp2
 gi_loopw [7] (λl wr=>∃a:X,a<=b/\l=.int .i64 a/\J (mE (λd=>g[d]?.getD 0) a) wr/\Below n c wr) (λl _=>b-(intOf l).toNat)
 case atStart=>exact⟨0,da _,bn,z,aki _ _⟩
 case round=>
  obtain⟨a,S,rfl,s,u⟩:=hrel;have H:a<b->wr.cell? ⟨h,k+a,bo⟩=Y (.int .i64 (g[a]?.getD 0)):=λy=>(u.cell (p:=⟨h,k+a,bo⟩) F).trans (G a y);by_cases t:a<b
  ·obtain⟨P,ad,N,O,V,D⟩:=E _ (g[a]?.getD 0) wr s (by rw[aef];exact t);have R:=H t
   gi_wp2
   refine D.mono ?_;rintro i M (⟨rfl,B,I⟩|⟨rfl,C⟩)
   ·gi_wp2
    go_roundw
    case rel=>exact⟨a+1,aa,ac,by rw[Rw];exact B,u.trans I⟩
    case measure=>simp[intOf];omega
   gi_wp2
   refine bodyPost_ret (results_none bn _ _ _) rfl ?_;exact⟨⟨_,bn⟩,.inr ⟨_,⟨a+1,aa,(Rw _ _).symm⟩,C⟩⟩
  obtain rfl:a=b:=by omega
  gi_wp2
  go_end0
  exact⟨⟨_,bn⟩,.inl ⟨_,bn,s⟩⟩
def aeg (a:aif) {b:X} (d:b<=a.length):mE (λf=>a[f]?.getD 0) b=a.take b:=by
 apply yv
 ·simp[mE,d]
 intro e c g;have:e<a.length:=(by simp[mE] at c;omega);simp[mE,this]
def pn (i:X) (g:bC) (f:Value) (a:aif):Prop:=
 (∃h c,f=.slice h 0 c/\a=[])\/∃b e c,f=.slice (Y ⟨b,e,bo⟩) a.length c/\b<i/\∀d,d<a.length->g.cell? ⟨b,e+d,bo⟩=Y (.int .i64 (a[d]?.getD 0))
def pn.below {b:X} {c d:bC} (l:Below b c d) {i:Value} {j:aif}:pn b c i j->pn b d i j
 |.inl a=>.inl a
 |.inr ⟨e,h,k,a,f,m⟩=>.inr ⟨e,h,k,a,f,λg n=>(l.cell (p:=⟨e,h+g,bo⟩) f).trans (m g n)⟩
set_option maxRecDepth 100000 in
set_option maxHeartbeats 1000000 in
def aer (a:ajf) (n:X) (i:a.fn 317) (k:a.round=bo) (m c:X) (e:bv Addr) (f:X) (J:aif->bC->Prop) (b:bC) (p:b.cell? ⟨c,0,bo⟩=Y (.slice e 0 f)) (h:J [] b):ai7 a n cp 317 #[.func (.yield m) #[] #[],.pointer (Y ⟨c,0,bo⟩)] b λg d=>(∃o,g=.returned o)/\J [] d:=by
 refine ajW alV bn i ?_ k;simp only[amH,tP,i5,oH,ajx,ajy,vT,vU,wc,v7,ir,nY]
 gi_wp2
 gi_loopw [7] (λl wr=>l=.int .i64 0/\J [] wr) (λ_ _=>0)
 case atStart=>exact⟨bn,h⟩
 case round=>
  obtain⟨rfl,j⟩:=hrel
  gi_wp2
  go_end0
  exact⟨⟨_,bn⟩,j⟩
set_option maxHeartbeats 1000000 in
def aes (a:ajf) (i:X) (g:a.fn 297) (h:a.round=bo) (c:bv Addr) (e d:X) (b:bC):ai7 a i cp 297 #[.slice c e d] b λf j=>f=.returned (.func (.func 317) #[] #[.pointer (Y ⟨b.heap.size,0,bo⟩)])/\j=b.alloc (.cells #[.slice c e d] 23):=by
 refine ajW Tryz.func297 bn g ?_ h;simp only[Tryz.ntmps297,tP,i5,oH,ajx,ajy,vT,vU,wc,v7,ir,nY]
 gi_wp2
 go_ret
 exact⟨bn,bn⟩
def aet (c:ajf) (g:X) (l:c.fn 317) (o:c.round=bo) (G:1<=g) (b h:X) (s:Value) (a:aif) (I:a.length*8<=140737488351232) (e:bC) (z:b<e.heap.size) (H:h<=e.heap.size) (D:e.cell? ⟨b,0,bo⟩=Y s) (A:pn h e s a):SeqStopsK c g cp 317 #[.pointer (Y ⟨b,0,bo⟩)] (λL:Z=>#[aiu .i64 L]) (Below h) (λt=>t=a) (λr=>r<+:a) a.length e:=λq J u j m _ _ B k=>by
 have n:=(m.cell (p:=⟨b,0,bo⟩) z).trans D;rcases A.below (m.mono H) with⟨w,i,rfl,rfl⟩|⟨x,K,i,rfl,C,E⟩
 ·exact(aer c g l o q b w i J j n k).mono λy v ⟨f,d⟩=>⟨f,.inl ⟨_,bn,d⟩⟩
 refine(aeq c g l o G q b h x K a.length i a I C J u B j n E k).mono ?_;rintro y v ⟨f,⟨t,rfl,d⟩|⟨r,⟨M,F,rfl⟩,d⟩⟩
 ·exact⟨f,.inl ⟨_,aee a,d⟩⟩
 exact⟨f,.inr ⟨_,by rw[aeg a F];exact List.take_prefix _ _,d⟩⟩
def Wj:(cp.info? 3).map (λa=>(a.zero,a.size,a.bytes))=Y (Y (.int .i64 0),1,8):=by kernel_rfl
set_option maxRecDepth 100000 in
set_option maxHeartbeats 2000000 in
def Te (g:ajf) (m:X) (E:g.fn 331) (u:g.fn 317) (q:g.round=bo) (a4:3<=m) (e:X) (r:Value) (f:aif) (M:f.length*8<=140737488351232) (a:bC) (F:e<a.heap.size) (o:a.cell? ⟨e,0,bo⟩=Y r) (H:pn a.heap.size a r f):ai7 g m cp 331 #[.slice bo 0 0,.func (.func 317) #[] #[.pointer (Y ⟨e,0,bo⟩)]] a λB t=>∃b,B=.returned b/\t.ownsRow a.heap.size 3 1 b f.length (f.map (aiu .i64))/\(b=.slice bo 0 0↔f=[])/\Below a.heap.size a t:=by
 have D:1<=m:=aa;obtain⟨S,J,P,Q,R⟩:=info_parts Wj;refine callsIn_of_wp_marks Tryz.func331 bn E ?_ q;simp only[Tryz.ntmps331,tP,i5,oH,ajx,ajy,vT,vU,wc,v7,ir,nY]
 gi_wp2
 have A:=amI a 23 (.slice bo 0 0);have n:Below a.heap.size a (a.alloc (.cells #[.slice bo 0 0] 23)):=(aki _ a).alloc (bc _) _;refine wpIn_rangeFunc_ownG q D (gf:=317) (lb:=#[.pointer (Y ⟨e,0,bo⟩)]) rfl u (enters_of alV (by kernel_rfl) rfl) (aet g (m-1) u q aa e a.heap.size r f M _ (by simp;omega) ac ((n.cell (p:=⟨e,0,bo⟩) F).trans o) (H.below n)) belowK_t (belowK_b ac) (aki _ _) (λ_=>rfl) (λc d=>(∃b,Boxed d a.heap.size 23 b/\d.ownsRow a.heap.size 3 1 b c.length (c.map (aiu .i64))/\(b=.slice bo 0 0↔c=[]))/\Below a.heap.size a d) (λ_ _ _=>b6) (OwnFrom.and (Own.from (holdsRow_own a.heap.size a.heap.size 23 3 1 (λc=>c.length) (λc=>c.map (aiu .i64)) (λc b=>b=.slice bo 0 0↔c=[])) _) (ownFrom_below (bc _) ac)) (λ_ _ _ _ _ N _ _=>N) ⟨⟨_,A,World.ownsRow_nil _ _ _ _,ac⟩,n⟩ (λj=>{tmps:=#[.slice bo 0 0,.func (.func 317) #[] #[.pointer (Y ⟨e,0,bo⟩)],.pointer (Y ⟨a.heap.size,0,bo⟩),bW,.slice bo 0 0,.int .i64 j,.func (.func 317) #[] #[.pointer (Y ⟨e,0,bo⟩)],.int .i64 j,bW,bW,bW,bW,bW],defers:=[]}) ?assign ?body ?done ?stop
 case assign=>
  intro T j d U i
  gi_wp2
  exact i
 case body=>
  rintro T c j d ⟨⟨b,l,k,x⟩,h⟩ a3;have o:=l.cell;have a0:f.length<=maxLen:=(by simp only[maxLen];omega);have an:f.length*8<=140737488355328:=by omega
  gi_wp2_with (gi_at_builtin;refine wpListIn_append_own _ rfl _ _ 23 bn a.heap.size 3 S (.int .i64 0) 1 8 amG J P Q R bn ab _ _ _ rfl (k.alloc _) ⟨d.heap.size,0,bo⟩ 1 1 [.int .i64 j] rfl rfl (cell_one_new _ _ _) (by simp[aiC]) aa aa (by have:=h.size;simp;omega) ?_;intro bl bs y I _;obtain⟨am,ad,rfl⟩:=ownsRow_succ y;obtain⟨z,O,L,K,v⟩:=l.appended ab k h.size (bc _) y I;have ap:=z.cell;have av:=z.frozen)
  exact⟨K.from _,v,⟨_,O,by simpa using L,ac⟩,h.trans v⟩
 case done=>
  rintro s bx d G rfl ⟨⟨b,l,k,x⟩,h⟩ i;have o:=l.cell
  gi_wp2
  refine⟨ac,.inl ⟨_,_,bn,run_takeDeferred i,?_⟩⟩;exact⟨_,results_tmp bn _ _ _,b,bn,ownsRow_putObj k _ i bn,x,h.trans (belowK_b (w:=a) (bc _) d s _ _ (by simp at G;omega) i bn rfl)⟩
 case stop=>
  rintro s V c d _ _ C _;exact C.elim
set_option maxHeartbeats 1000000 in
def T4 (b:ajf) (f:X) (m:b.fn 315) (k:b.fn 331) (l:b.fn 317) (j:b.round=bo) (v:4<=f) (e:X) (g:Value) (c:aif) (s:c.length*8<=140737488351232) (a:bC) (n:e<a.heap.size) (q:a.cell? ⟨e,0,bo⟩=Y g) (o:pn a.heap.size a g c):ai7 b f cp 315 #[.func (.func 317) #[] #[.pointer (Y ⟨e,0,bo⟩)]] a λi h=>∃d,i=.returned d/\h.ownsRow a.heap.size 3 1 d c.length (c.map (aiu .i64))/\(d=.slice bo 0 0↔c=[])/\Below a.heap.size a h:=by
 have u:1<=f:=aa;refine ajW Tryz.func315 bn m ?_ j;simp only[Tryz.ntmps315,tP,i5,oH,ajx,ajy,vT,vU,wc,v7,ir,nY]
 gi_wp2_with (gi_at_call 331;refine(Te b (f-1) k l j aa e g c s _ n q o).mono ?_;rintro i w ⟨d,rfl,t,r,p⟩)
 go_ret
 exact⟨d,bn,t,r,p⟩
open Go.jg
theorem acs {M:eD->X->Prop} {f:bC} {k:X} {j:Value} {b:aif} (s:f.ownsRow k 3 1 j b.length (b.map (aiu .i64))):∃d,aS M f (.osl (.int .i64)) [j] b d/\d.Nodup/\∀h∈d,k<=h/\h<f.heap.size:=by
 rcases s.2 with⟨rfl,t⟩|⟨e,l,i,rfl,w,q,u,A,v,m⟩
 ·obtain rfl:=qA t;exact⟨[],⟨bo,0,bn,.inl ⟨bn,bn,bn,bn⟩⟩,ac,ac⟩
 rw[ajO] at v m;have o:∀a,a<l->f.cell? ⟨e,a,bo⟩=Y (i[a]?.getD bW)/\f.frozen? ⟨e,a,bo⟩=bq:=λa c=>(by constructor<;>simp[ajq,akI,q,(aa:a<i.size)]);refine⟨[e],⟨Y ⟨e,0,bo⟩,l,bn,.inr ⟨e,0,bJ b.length [],bn,ac,ac,u,λa _ c=>?_,λg z d r p=>?_⟩⟩,ac,λh n=>?_⟩
 ·obtain⟨aw,y⟩:=o a (by simpa[aiG] using c);exact⟨by rw[aw];rfl,y⟩
 ·have x:g<b.length:=(hH.1 r).1;obtain rfl:d=[]:=by
   rw[List.getElem?_replicate] at p;split at p<;>simp_all
  refine⟨[.int .i64 z],bn,λa j c=>?_,bn,bn⟩;cases a with
  |succ a=>simp at c
  |zero=>
   simp only[qD,eS] at c;subst c;simp only[aiG,ajO,nh,nf];rw[(o g aa).1];have:(i.toList.take b.length)[g]?=(b.map (aiu .i64))[g]?:=(by rw[m]);rw[r2 x,Bp,jh,r] at this;rw[this];rfl
 simp only[gp] at n;subst n;exact⟨w,(rT.1 q).1⟩
def Wb {o:eD->X->Prop} {n:bC} {i:Value} {a:aif} {k:aie} (g:aS o n (.osl (.int .i64)) [i] a k):(∃j b,i=.slice j 0 b/\a=[])\/∃c e b,i=.slice (Y ⟨c,e,bo⟩) a.length b/\a.length<=b/\Holds (aiu .i64) n c e a.toArray/\k=[c]:=by
 obtain⟨j,b,m,g⟩:=g;simp only[hN,b9] at m;subst m;rcases g with⟨rfl,rfl,rfl,rfl⟩|⟨c,e,f,rfl,rfl,A,s,t,l⟩
 ·exact .inl ⟨bo,0,bn,bn⟩
 right;have u:f.flatten=[]:=by
  rw[List.flatten_eq_nil_iff];intro C x;obtain⟨h,B,rfl⟩:=hu.1 x;obtain⟨r,_,_,y⟩:=l h (a[h]'(by omega)) f[h] ac ac
  exact y.1
 refine⟨c,e,b,bn,s,λd v=>?_,by rw[u]⟩;have w:d<a.length:=(by simpa using v);obtain⟨r,z,p,_,q⟩:=l d a[d] (f[d]'(by omega)) ac ac
 subst q;have aw:=p 0 _ rfl;simp only[aiG,ajO,nf] at aw;exact⟨by rw[aw];simp[w],(t (e+d) aa (by simp only[aiG];omega)).2⟩
def F5 (E:fA) (c:aif->es):Prop:=∀b a,c b=Y a->rU E 316 [.m ⟨.osl (.int .i64),b⟩ a] []
set_option maxRecDepth 100000 in
set_option maxHeartbeats 2000000 in
def adi (i:ajf) (h:∀e,i.fn e) (z:i.round=bo) (O:∀(ap:X) (e:FuncId) (v:ah6) (c:bC) (t:Ending->bC->Prop),Calls cp e v c t->ai7 i ap cp e v c t) {E:fA} (I:E.P=cp) {C:aif->es} (am:F5 E C) (k:X) (bl:5<=k) (m:X) (r:Value) (l s:aif) (an:C l=Y s) (V:l.length*8<=140737488351232) (c:bC) (J:lg E (λb=>b<c.heap.size) c) (H:m<c.heap.size) (N:c.cell? ⟨m,0,bo⟩=Y r) (K:pn c.heap.size c r l):ai7 i k cp 296 #[.func (.func 317) #[] #[.pointer (Y ⟨m,0,bo⟩)]] c λp u=>∃g e D,p=.returned g/\aS D u (.osl (.int .i64)) [g] s e/\(∀b∈e,c.heap.size<=b)/\Below c.heap.size c u:=by
 have a4:1<=k:=aa;have bs:=h 315;have bx:=h 316;refine ajW Tryz.func296 bn (h _) ?_ z;simp only[Tryz.ntmps296,tP,i5,oH,ajx,ajy,vT,vU,wc,v7,ir,nY]
 gi_wp2_with (first
  |(
   gi_at_call 315;refine(T4 i (k-1) (h _) (h _) (h _) z aa m r l V _ H N K).mono ?_;rintro p F ⟨g,rfl,A,T,d⟩
   obtain⟨e,U,S,o⟩:=acs (M:=bb (λ_=>b6) (λ_=>b6)) A;have n:=am l s an F (λb=>b<c.heap.size) (λ_=>b6) [g] [e] (λb a=>by rcases a with a|a;exact i9 a d.size;exact a.elim) ⟨⟨[g],bn,U⟩,trivial⟩ (by simpa using S) (λb d=>⟨Nat.not_lt.2 (o b (by simpa using d)).1,λa=>a,(o b (by simpa using d)).2⟩) True.intro (J.mono (λ_ a=>a) λb a=>d.block b a);rw[I] at n;have n:=O (k-1) _ _ _ _ n;clear A T)
  |(gi_at_call 316;refine n.mono ?_;rintro p a0 ⟨av,w,ce,B,rfl,f⟩))
 have Q:∃j,w=[j]:=by
  have:=f.args
  match w,this with
  |[j],_=>exact⟨j,bn⟩
  |[],a=>exact a.elim
  |_::_::_,a=>exact a.2.elim
 obtain⟨j,rfl⟩:=Q;obtain⟨a3,aq,y⟩:=f.args.1;have R:=y.len;obtain⟨G,rfl⟩:=qG.1 R;have aq:g=G:=aq;subst aq;have ad:B=[]:=by
  have:=f.res
  match B,this with
  |[],_=>rfl
  |_::_,a=>exact a.elim
 subst ad
 go_ret
 refine⟨g,j,_,bn,y,λb L=>?_,?_⟩
 ·have:=(f.LB b (by simp[L])).2.2.2;rcases this with a|a
  ·exact ez d.size a
  exact(o b (by simpa using a)).1
 exact⟨f.os.trans d.os,f.tape.trans d.tape,f.output.trans d.output,ez d.size f.size,λq x=>(f.heap q (i9 x d.size) (λa=>by have:=(o q (by simpa using a)).1;omega)).trans (d.block q x)⟩
def Ua {j:eD->X->Prop} {b:bC} {B:X} {i:Value} {e:aif} {h:aie} (n:aS j b (.osl (.int .i64)) [i] e h) (m:∀c∈h,B<=c) (r:e.length<=1000000):Calls cp 295 #[i] b (λf g=>∃d a,f=.returned (.slice d (ai6 e).length a)/\Below B b g):=by
 rcases Wb n with⟨d,a,rfl,rfl⟩|⟨c,p,a,rfl,l,k,rfl⟩
 ·refine(Any.slices_Compact_int_empty Tryz.NG d a b).mono ?_;rintro f g ⟨rfl,rfl⟩;exact⟨d,a,bn,aki _ _⟩
 refine(Any.slices_Compact_int Tryz.NG c p a e b k aa l).mono ?_;rintro f g ⟨rfl,s,rfl⟩;refine⟨_,a,bn,bn,bn,bn,by simp[putRow,mapBlock,amJ],λo q=>?_⟩;have:=m c ac;simp[putRow,mapBlock,amJ,Array.getElem?_modify,(aa:c≠o)]
set_option maxRecDepth 100000 in
set_option maxHeartbeats 2000000 in
def adX (g:ajf) (i:∀k,g.fn k) (p:g.round=bo) (t:∀(S:X) (k:FuncId) (r:ah6) (a:bC) (q:Ending->bC->Prop),Calls cp k r a q->ai7 g S cp k r a q) {E:fA} (F:E.P=cp) {x:aif->es} (O:F5 E x) (j:X) (av:7<=j) (c:bv Addr) (b e:X) (f m:aif) (R:x f=Y m) (N:f.length=b) (bl:f.length<=1000000) (Q:m.length<=1000000) (a:bC) (G:lg E (λd=>d<a.heap.size) a) (H:pn a.heap.size a (.slice c b e) f):ai7 g j cp 259 #[.slice c b e] a λh z=>h=.returned (.bool (br ((ai6 m).length<f.length)))/\Below a.heap.size a z:=by
 have ap:1<=j:=aa;have a0:=i 297;have a3:=i 296;have a4:=i 295;generalize M:(ai6 m).length=an;refine ajW Tryz.func259 bn (i _) ?_ p;simp only[Tryz.ntmps259,tP,i5,oH,ajx,ajy,vT,vU,wc,v7,ir,nY];have C:=amI a 23 (.slice c b e);have n:Below a.heap.size a (a.alloc (.cells #[.slice c b e] 23)):=(aki _ a).alloc (bc _) _;have I:pn (a.alloc (.cells #[.slice c b e] 23)).heap.size (a.alloc (.cells #[.slice c b e] 23)) (.slice c b e) f:=by
  rcases H.below n with l|⟨d,T,D,h,o,L⟩
  ·exact .inl l
  exact .inr ⟨d,T,D,h,by simp;omega,L⟩
 have w:=adi g i p t F O (j-1) aa a.heap.size (.slice c b e) f m R aa _ (G.mono (λd (l:d<a.heap.size)=>i9 l n.size) λd l=>n.block d l) ac C.cell I
 gi_wp2_with (first
  |(gi_at_call 297;refine(aes g (j-1) (i _) p c b e a).mono ?_;rintro h bx ⟨rfl,rfl⟩)
  |(gi_at_call 296;refine w.mono ?_;rintro h y ⟨bs,k,U,rfl,v,u,o⟩;have s:=t (j-1) _ _ _ _ (Ua (B:=a.heap.size) v (λd J=>by have:=u d J;simp at this;omega) Q);rw[M] at s;have A:Below a.heap.size a y:=n.trans (o.mono ac);clear v u o w)
  |(gi_at_call 295;refine s.mono ?_;rintro h V ⟨ad,am,rfl,K⟩))
 go_ret
 exact⟨by rw[N];rfl,A.trans K⟩
def adU (c:aif->es):jw:=⟨259,[.v (.a2 .de (.int .i64))],[.bool],λa=>(Bh c a.1).map λb=>(b,())⟩
def adV {E:fA} (q:E.P=cp) {sort:aif->es} (K:F5 E sort):aC E (adU sort):=by
 refine⟨λg f=>by rw[q];exact Tryz.call259 g f,?_⟩;rintro⟨d,_⟩ b c;have w:(Bh sort d).map (λb=>(b,()))=Y b:=c;obtain⟨B,e,rfl⟩:=fC.1 w;clear c w;unfold Bh at e;cases l:b2 d.length 1000000 with
 |false=>rw[l] at e;cases e
 |true=>
 rw[l] at e;obtain⟨s,M,e⟩:=eO.1 e;cases m:b2 s.length 1000000 with
 |false=>rw[m] at e;cases e
 |true=>
 rw[m] at e;have c:br ((ai6 s).length<d.length)=B:=gC e;subst c;have l:=gS l;have m:=gS m;rintro f t A g k u h an am _hself;have h:mg (yi t A f) [.v ⟨.a2 .de (.int .i64),d⟩] g k:=h;obtain⟨p,j,rfl,rfl⟩:∃p j,g=[p]/\k=[j]:=by
  cases g with
  |nil=>exact h.elim
  |cons p g=>
   cases k with
   |nil=>exact h.elim
   |cons j k=>
    have a:=h.2;cases g with
    |nil=>cases k with
     |nil=>exact⟨p,j,bn,bn⟩
     |cons=>exact a.elim
    |cons=>exact a.elim
 obtain⟨⟨rfl,S,rfl,J⟩,_⟩:=h;obtain⟨_,o,i,rfl,ad,ap,I⟩:=J;have G:pn f.heap.size f (.slice o d.length i) d:=by
  rcases I with a|⟨b,O,rfl,H,L⟩
  ·exact .inl ⟨o,i,by rw[show d=[] from a];rfl,a⟩
  refine .inr ⟨b,O,i,bn,u b H,λy x=>?_⟩;obtain⟨U,T,C,_,D⟩:=L y d[y] (by simp[x]);subst D;have z:=C 0 _ rfl;simp only[aiG,ajO,nf] at z;rw[z];simp[x]
 intro F;have a:=adX Fence.wide (λ_=>trivial) rfl (λN j R f Q a=>(callsIn_wide (n:=N)).2 a) q K 10 aa o d.length i d s M bn l m f (F.mono (λb a=>u b (.inl a)) λ_ _=>rfl) G;have a:=callsIn_wide.1 a;show Calls E.P 259 #[.slice o d.length i] f _;rw[q];refine a.mono ?_;rintro V av ⟨rfl,c⟩;refine⟨t,[[]],[[]],[.bool _],bn,⟨⟨bn,trivial⟩,⟨⟨[.bool _],bn,bn,bn⟩,trivial⟩,ac,ac,λ_ a=>a,λ_ a=>.inl a,c.size,c.os,c.tape,c.output,λb r=>.of_heap (c.block b r),λb r _=>c.block b r⟩⟩
end K0
end Go.Proofs
end
end
