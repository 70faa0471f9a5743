/-
  Parts of the proof: Fw25, Fw36, Fw46, Fw47, Pl1, Fs, Dn20, Dn21, TwS, Dn20b, Dn22, Dn24a, Dn24, Dn25, Dn25b, Tw25: the framework (Fw), pure forms (Dn), plain laws (Pl, Th), calls of functions (Ok).
-/
import Derived.ProofKit
import Derived.Handed
import Derived.KernelRfl
import Derived.Lib.SlicesCompact
import Derived.RangeFuncBox
import Derived.RangeFuncLeaves
import Derived.Shelf.Abstract
import Derived.WalkKit
import Derived.OwnWalkIn
import Derived.TacticsInMore
import Derived.LoopNIn
import Derived.LoopIn
import Derived.Maps.AppendAt
import Derived.Shelf.Slices.CompactI
import Derived.Lib.OwnBridge
import Derived.Test.YtnndjinceoekdaaGreatDoorProg
import Derived.Test.YtnndjinceoekdaaGreatDoorB1b010b38

set_option linter.all false
set_option maxHeartbeats 1000000
open _root_ renaming Nat->X,Int->Z,List->bm,rfl->bn,Option->bv,cond_true->bG,congrArg->b3,Array->bU,Bool->bA,if_true->cf,False->b6,Unit->bt,cond->bw,and_true->b9
open Go renaming World->bD,ResultVar->ah8,TypeId->bF,Exit->b5,Oper->bR,Program->b0,Field->aio,MemPlace->ajB,Fence->aiZ,CallsIn->aiR,callsIn_of_wp->ajG,undef->bW
open Option renaming none->bo,some->Y,bind_eq_some_iff->aje,isSome_iff_exists->ak5,bind->bB
open Nat renaming beq->bH,blt->cb,ble->b2,reduceAdd->ajg,reduceSub->ajh,mul_one->ajy
open List renaming length->aia,range->bI,getElem?_eq_none->ajE,getElem?_eq_getElem->bS,replicate->bJ
open Option.some renaming inj->aiL
open Bool renaming true->bp,false->bq
open ByteArray renaming empty->ako
open Go.Program renaming cellsOf->amu
open Go.Addr renaming add->akH
open Go.World renaming cell?->ai9,frozen?->aks
open Go.DataW renaming trod->alF,TrodAll->ajD
open Go.jf.ah renaming size->aiq
open Go.Value renaming okWide->ajC,bool->amx,int->aie,oneCell'->aim
open Go.WideShapes renaming okWide_int->anu,okWide_bool->anv,okWide_string->anw,okWide_slice->anx
open Go.ChangeShapes renaming trodAll_cons->alG,trodAll_mk1->anA,trodAll_append->anB
open Go.jf.c5 renaming refl->cq
open Go.WideElems renaming Trod_stays->anz
open Array renaming toArray_toList->amv
open Go.MemPlace renaming cell->amw
open Decidable renaming decide->br
open Go.IntKind renaming i64->bK,wrap->ajF,u64->bC,u32->cc,u8->alH
open Go.Lib renaming compact->aiQ
open Go.Proofs.Tryz renaming prog->cp,underlying23->amy,func317->alI,ntmps317->amz
open Go.RowKit.Below renaming refl->aj1
open Go.Boxed renaming new->amA
open Go.Sort renaming ahead->amB
noncomputable section
namespace Go.jf
variable{a:X}{b:Value}{c:bD}{d:Z}{e:bm ah8}{f:eC->X->Prop}{g:bm hl}{h:bm ah}{i:ahZ}{j:X->Prop}
section
def nr:X->(f:bm hl)->hp f->bm (X×ak)
 |_,[],_=>[]
 |k,.v g::b,a=>(k,.val g a.1)::nr (k+1) b a.2
 |k,.m _::b,a=>(k,.ref k [])::nr (k+1) b a.2
 |k,.o _::b,a=>(k,.ref k [])::nr (k+1) b a.2
 |k,.c e h::b,a=>(k,.eA e ((iT h a.1).map λd=>.val d.1 d.2))::nr (k+1) b a.2
 |k,.n::b,a=>(k,.dg (.slice bo 0 0))::nr (k+1) b a.2
 |k,.w _::b,a=>(k,.view k [] a.1.2.1 a.1.2.2)::nr (k+1) b a.2
 |k,.s _ _::b,a=>nr (k+1) b a.2
def ns:X->(e:bm hl)->hp e->bm (X×aF)
 |_,[],_=>[]
 |k,.v _::b,a=>ns (k+1) b a.2
 |k,.m d::b,a=>(k,⟨d,a.1⟩)::ns (k+1) b a.2
 |k,.o d::b,a=>(k,⟨d,a.1⟩)::ns (k+1) b a.2
 |k,.c _ _::b,a=>ns (k+1) b a.2
 |k,.n::b,a=>ns (k+1) b a.2
 |k,.w f::b,a=>(k,⟨.osl f,a.1.1⟩)::ns (k+1) b a.2
 |k,.s _ _::b,a=>ns (k+1) b a.2
def jU:X->bm hl->ahY
 |_,[]=>[]
 |k,.m _::a=>k::jU (k+1) a
 |k,.v _::a=>jU (k+1) a
 |k,.o _::a=>jU (k+1) a
 |k,.c _ _::a=>jU (k+1) a
 |k,.n::a=>jU (k+1) a
 |k,.w _::a=>k::jU (k+1) a
 |k,.s _ _::a=>jU (k+1) a
def Gf {r:Type}:∀{k:X} {ps:bm hl} {a:hp ps} {b:iM ps r},jE k (gG ps a b)=nr k ps a/\j8 k (gG ps a b)=ns k ps a/\hP k (gG ps a b)=jU k ps/\(gG ps a b).length=ps.length
 |k,[],a,b=>⟨bn,bn,bn,bn⟩
 |k,i::h,a,b=>by
  have g:=λa b=>Gf (r:=r) (k:=k+1) (ps:=h) (a:=a) (b:=b);cases i
  case m=>
   obtain⟨c,d,e,f⟩:=g a.2 b.2;simp only[gG,jE,j8,hP,nr,ns,jU,iZ,c,d,e,f,and_self]
  case w=>
   obtain⟨c,d,e,f⟩:=g a.2 b.2;simp only[gG,jE,j8,hP,nr,ns,jU,iZ,c,d,e,f,and_self]
  all_goals obtain⟨c,d,e,f⟩:=g a.2 b;simp only[gG,jE,j8,hP,nr,ns,jU,iZ,c,d,e,f,and_self]
def E4 (tt:bm (bF×ah)) (e:aO) (b:ah):ah8->bv (b.den×ahY)
 |.tmp k=>match gt e.g k with
  |.val _ l=>(hZ b l).bind λa=>Y (a,[])
  |.dg f=>bif pS b f then(iK b f.cells.toList).bind λa=>Y (a,[]) else bo
  |.ref id d=>match ar e.h id with
   |some c=>(h0 c.1 c.2 d b).bind λa=>Y (a,[id])
   |none=>bo
  |_=>bo
 |.cell j i=>match ar tt i with
  |some m=>bif a7 m b then match gt e.g j with
   |.ref id d=>match ar e.h id with
    |some c=>match fm c.1 d with
     |some (.optr _)=>(h0 c.1 c.2 (d++[.deref]) b).bind λa=>Y (a,[id])
     |_=>bo
    |none=>bo
   |_=>bo else bo
  |none=>bo
def E3 (tt:bm (bF×ah)) (c:aO):bm ah8->(a:bm ah)->bv (lJ a×ahY)
 |[],[]=>Y ((),[])
 |r::f,e::a=>bif e.fZ then(E4 tt c e r).bind λd=>(E3 tt c f a).map λb=>((d.1,b.1),d.2++b.2) else bo
 |_,_=>bo
theorem acd {E:fB} {f:aO} {c:ah} {b:ah8} {d:c.den×ahY} (a:E4 E.tt f c b=Y d):r6 E.P f ⟨c,d.1⟩ b d.2:=by
 cases b with
 |tmp b=>
  simp only[E4] at a;simp only[r6];split at a
  ·grind [ka,aje]
  ·grind [aje,pS.ok]
  ·grind [iL,aje]
  grind
 |cell j h=>
  simp only[E4] at a;simp only[r6];split at a
  case h_2=>cases a
  rename_i g i;cases e:a7 g c with
  |false=>grind
  |true=>
  rw[e] at a;refine⟨(E.ok h g i).lay e,?_⟩;simp only[bG] at a;grind [iL,aje]
theorem PX {E:fB} {f:aO}:∀{d:bm ah8} {c:bm ah} {b:lJ c×ahY},E3 E.tt f d c=Y b->tT E.P f d (iT c b.1) b.2
 |[],[],b,a=>by cases a;rfl
 |[],_::_,b,a=>by cases a
 |_::_,[],b,a=>by cases a
 |r::d,k::c,b,a=>by
  simp only[E3] at a;cases e:k.fZ with
  |false=>grind
  |true=>
  rw[e] at a;simp only[bG] at a;obtain⟨j,h,a⟩:=eO.1 a;obtain⟨i,g,rfl⟩:=fD.1 a;exact⟨e,j.2,i.2,bn,acd h,PX g⟩
def o9 (
 st:aO) {t:Type} (d:bv t):X->(r:bm hl)->hp r->bv (iM r t)
 |_,[],_=>d
 |k,.v _::b,a=>o9 st d (k+1) b a.2
 |k,.o _::b,a=>o9 st d (k+1) b a.2
 |k,.c _ _::b,a=>o9 st d (k+1) b a.2
 |k,.n::b,a=>o9 st d (k+1) b a.2
 |k,.s _ _::b,a=>o9 st d (k+1) b a.2
 |k,.m l::b,a=>bif se (.ref k []) (gt st.g k)&&(l.fZ&&rO l) then match ar st.h k with
  |some j=>match hZ l j.2 with
   |some e=>(o9 st d (k+1) b a.2).map λi=>(e,i)
   |none=>bo
  |none=>bo else bo
 |k,.w f::b,a=>match gt st.g k with
  |.view u [] q p=>bif bH k u&&f.fZ then match ar st.h k with
   |some j=>match hZ (.osl f) j.2 with
    |some e=>bif bH q a.1.2.1&&(bH p a.1.2.2&&(bH (aia (α:=f.den) e) (aia (α:=f.den) a.1.1)&&cb q p)) then(o9 st d (k+1) b a.2).map λi=>(e,i) else bo
    |none=>bo
   |none=>bo else bo
  |_=>bo
theorem s5 {y:aO} {C:Type} {B:bv C}:∀{k:X} {ps:bm hl} {a:hp ps} {d:iM ps C},o9 y B k ps a=Y d->pD y k (gG ps a d)/\B=Y (ip ps d)
 |k,[],a,d,b=>⟨trivial,b⟩
 |k,.v _::e,a,d,b=>s5 (ps:=e) b
 |k,.o _::e,a,d,b=>s5 (ps:=e) b
 |k,.c _ _::e,a,d,b=>s5 (ps:=e) b
 |k,.n::e,a,d,b=>s5 (ps:=e) b
 |k,.s _ _::e,a,d,b=>s5 (ps:=e) b
 |k,.m E::e,a,d,b=>by
  simp only[o9] at b;cases f:(se (.ref k []) (gt y.g k)&&(E.fZ&&rO E)) with
  |false=>grind
  |true=>
  rw[f] at b;simp only[cC] at f;simp only[bG] at b;split at b
  case h_2=>cases b
  rename_i J t;split at b
  case h_2=>cases b
  rename_i D u;obtain⟨I,r,rfl⟩:=fD.1 b;obtain⟨j,l⟩:=s5 (a:=a.2) r;refine⟨⟨⟨(se.ok f.1).symm,?_,f.2.1,f.2.2⟩,j⟩,l⟩;rw[t];exact b3 Y (ka u)
 |k,.w z::e,a,d,b=>by
  simp only[o9] at b;split at b
  case h_2=>cases b
  rename_i H x q G;cases f:(bH k H&&z.fZ) with
  |false=>grind
  |true=>
  rw[f] at b;simp only[cC] at f;obtain rfl:=fv f.1;simp only[bG] at b;split at b
  case h_2=>cases b
  rename_i J t;split at b
  case h_2=>cases b
  rename_i D u;cases p:(bH x a.1.2.1&&(bH q a.1.2.2&&(bH (aia (α:=z.den) D) (aia (α:=z.den) a.1.1)&&cb x q))) with
  |false=>grind
  |true=>
  rw[p] at b;simp only[cC] at p;obtain⟨h,i,F,A⟩:=p;have h:=fv h;have i:=fv i;have A:x<q:=gT A;obtain⟨I,r,rfl⟩:=fD.1 b;obtain⟨j,l⟩:=s5 (a:=a.2) r;refine⟨⟨⟨by rw[G,h,i],?_,⟨f.2,aa⟩,fv F⟩,j⟩,l⟩;rw[t];exact b3 Y (ka u)
def DM (tt:bm (bF×ah)) (a:bm hl) (f:bm ah8) (d:bm ah) (e:hp a) (c:aO):bv (iM a (lJ d)):=
 match E3 tt c f d with
 |some b=>bif jq (jU 0 a++b.2) then o9 c (Y b.1) 0 a e else bo
 |none=>bo
theorem MH {E:fB} {j:aO} {c:hp g} {d:iM g (lJ h)} {f:b5} (m:f=.normal\/f=.ret) (b:DM E.tt g e h c j=Y d):Ky E.P (gG g c d) e (iT h (ip g d)) f j:=by
 unfold DM at b;split at b
 case h_2=>cases b
 rename_i i o;cases l:jq (jU 0 g++i.2) with
 |false=>grind
 |true=>
 rw[l] at b;simp only[bG] at b;obtain⟨k,n⟩:=s5 (a:=c) b;refine⟨m,i.2,?_,?_,k⟩
 ·grind [PX,aiL]
 simp_all [Gf]
def MI (tt:bm (bF×ah)) (a:bm hl) (e:bm ah8) (c:bm ah) (d:hp a):b5->aO->bv (iM a (lJ c))
 |.normal,b=>DM tt a e c d b
 |.ret,b=>DM tt a e c d b
 |_,_=>bo
def zZ (c:gS) (e:mg) (f:Code) (a:bm hl) (g:bm ah8) (d:bm ah) (b:hp a):bv (iM a (lJ d)):=
 hI c e f ⟨nr 0 a b,ns 0 a b⟩ _ (MI c.tt a g d b)
section
variable {E:fB}
theorem aD.Ox {i:X} {d:Func} {j:hp g->bv (iM g (lJ h))} (n:bm (X×jx)) (r:bm (X×ah)) (o:ah0) (w:mg) (aB:ahR) (F:∀v∈aB,yg E.P v) (D:E.P.funcs[i]?=Y d) (O:d.body.isSome=bp) (I:d.results=e.toArray) (R:b2 g.length d.ntmps=bp) (C:∀(s:ahQ) (t:bD),(callFunc i s).run E.P t=.ok (.enter i s) t) (J:∀K∈n,aD E K.2) (A:∀f,zZ ⟨E.tt,n,r,d.ntmps,jU 0 g++nO (ju 0 g),[],o,ju 0 g,aB,[],E.glob,E.eqs⟩ w (d.body.getD .skip) g e h f=j f):aD E ⟨i,g,h,j⟩:=by
 refine⟨C,λf u p=>?_⟩;rw[show(jx.mk i g h j).xW f=j f from rfl,<-A f] at p;obtain⟨aq,y,z,N⟩:=Gf (k:=0) (ps:=g) (a:=f) (b:=u);refine rS.XV D (c:=d.body.getD .skip) (by cases Q:d.body with|none=>grind|some L=>rfl) I (by simp_all) ?_;intro M B l H q G;rw[aq,y];rw[AV] at l q;rw[z] at l;refine l8 (ic:=⟨E.tt,n,r,d.ntmps,jU 0 g++nO (ju 0 g),[],o,ju 0 g,aB,[],E.glob,E.eqs⟩) ⟨bn,B.symm,l.symm,⟨J,q,F,G,bn,bn⟩,pu.nil H⟩ p ?_;intro x S m;cases x with
 |normal=>exact MH (.inl bn) m
 |ret=>exact MH (.inr bn) m
 |_=>cases m
def aD.of {fn:Func} {rs:bm ah8} {j:hp g->bv (iM g (lJ h))} (c:bm (X×jx)) (i:bm (X×ah)) (f:ah0) (e:mg) (o:E.P.funcs[a]?=Y fn) (m:fn.body.isSome=bp) (q:fn.results=rs.toArray) (p:b2 g.length fn.ntmps=bp) (n:∀(k:ahQ) (l:bD),(callFunc a k).run E.P l=.ok (.enter a k) l) (r:∀s∈c,aD E s.2) (b:∀d,zZ ⟨E.tt,c,i,fn.ntmps,jU 0 g++nO (ju 0 g),[],f,ju 0 g,[],[],E.glob,E.eqs⟩ e (fn.body.getD .skip) g rs h d=j d):aD E ⟨a,g,h,j⟩:=
 aD.Ox c i f e [] (λ_ b=>by cases b) o m q p n r b
def Fe:Code->Code
 |.seq a _=>a
 |c=>c
def Qw:Code->Code
 |.seq _ a=>a
 |c=>c
def vq (a:X):Code->bv (bU bR)
 |.region d e _=>if d=a then Y e else bo
 |.seq b c=>(vq a b).orElse λ_=>vq a c
 |.cond _ b c=>(vq a b).orElse λ_=>vq a c
 |.block _ b=>vq a b
 |.loop b=>vq a b
 |_=>bo
def HV {b:gS} {k:Type} {c:bU bR} {f:ahY} {d:aO->bv k}:∀(j:ahY) (g:aO),k1 b c (j++f) g d=k1 b c j g λa=>k1 b c f a d
 |[],g=>rfl
 |i::e,g=>by
  have h:(λa=>k1 b c (e++f) a d)=λa=>k1 b c e a λa=>k1 b c f a d:=funext λa=>HV e a;simp only[nW,k1];split
  ·rfl
  split
  ·rw[h]
  simp only[h,HV e]
def Vz {b:b0} {tt:bm (bF×ah)} (i:∀c f,ar tt c=Y f->fj b f c) {a:tW} {S:bF} (g:b.underlying a.T=Y (.array a.xs.length S)) (h:ar tt S=Y (.int a.k)):∀e∈[a],KM b e:=λe d=>by rw[gd] at d;subst d;exact⟨S,g,i _ _ h⟩
def Q4:∀b∈([]:bm (X×jx)),aD E b.2:=λ_ a=>by cases a
theorem adE {c:jx} {d:bm (X×jx)} (f:aD E c) (g:∀b∈d,aD E b.2):∀b∈(a,c)::d,aD E b.2:=λb e=>by grind
end
def vI:Value->Value->bA
 |.int c a,.int d b=>if c=d/\a=b then bp else bq
 |.bool a,.bool b=>a==b
 |.string a,.string b=>a.data.toList.isEmpty&&b.data.toList.isEmpty
 |.slice bo 0 0,.slice bo 0 0=>bp
 |.map bo,.map bo=>bp
 |.pointer bo,.pointer bo=>bp
 |.nilFunc,.nilFunc=>bp
 |_,_=>bq
def S0 {a:ByteArray} (c:a.data.toList.isEmpty=bp):a=ako:=by
 cases a with|mk b=>cases b with|mk d=>cases d with
  |nil=>rfl
  |cons=>cases c
theorem vI.ok {c:Value} (a:vI b c=bp):b=c:=by
 unfold vI at a;split at a
 ·grind
 ·rw[beq_iff_eq.1 a]
 ·simp_all [S0,cC]
 ·rfl
 ·rfl
 ·rfl
 ·rfl
 cases a
def vJ:ahS->ahS->bA
 |[],[]=>bp
 |a::c,b::d=>vI a b&&vJ c d
 |_,_=>bq
theorem vJ.ok:∀{c d:ahS},vJ c d=bp->c=d
 |[],[],_=>rfl
 |[],_::_,b=>by cases b
 |_::_,[],b=>by cases b
 |a::c,e::d,b=>by simp only[vJ,cC] at b;rw[vI.ok b.1,vJ.ok b.2]
def jm (b:b0) (c:bF) (d:X) (f:Value):bA:=match b.info? c with
 |some a=>bH a.size 1&&b2 a.bytes d&&(match a.zero with|some e=>vI e f|none=>bq)
 |none=>bq
theorem jm.ok {d:b0} {e:bF} {f:X} {g:Value} (b:jm d e f g=bp):∃a,d.info? e=Y a/\a.size=1/\a.bytes<=f/\a.zero=Y g:=by
 unfold jm at b;split at b
 case h_2=>cases b
 rename_i a j;simp only[cC] at b;obtain⟨⟨h,i⟩,c⟩:=b;split at c
 case h_2=>cases c
 rename_i l k;exact⟨a,j,fv h,gT i,by rw[k,vI.ok c]⟩
mutual
def hU (b:b0):ah->bF->bA
 |.int g,a=>jm b a 24 (.int g 0)&&(match b.underlying a with|some (.int j)=>if j=g then bp else bq|_=>bq)
 |.bool,a=>jm b a 24 (.bool bq)&&(match b.underlying a with|some .bool=>bp|_=>bq)
 |.str,a=>jm b a 24 (.string ako)&&(match b.underlying a with|some .string=>bp|_=>bq)
 |.a2 _ c,a=>jm b a 24 (.slice bo 0 0)&&(match b.underlying a with|some (.slice d)=>hU b c d|_=>bq)
 |.osl c,a=>jm b a 24 (.slice bo 0 0)&&(match b.underlying a with|some (.slice d)=>hU b c d|_=>bq)
 |.ptr _ c,a=>jm b a 24 (.pointer bo)&&(match b.underlying a with|some (.pointer d)=>hU b c d|_=>bq)
 |.optr c,a=>jm b a 24 (.pointer bo)&&(match b.underlying a with|some (.pointer d)=>hU b c d|_=>bq)
 |.mp c,a=>jm b a 24 (.map bo)&&(match b.underlying a with|some (.map e d)=>(match b.underlying e with|some (.int .i64)=>hU b c d|_=>bq)|_=>bq)
 |.fx _ c,a=>jm b a 24 (.map bo)&&(match b.underlying a with|some (.map e d)=>(match b.underlying e with|some (.int .i64)=>hU b c d|_=>bq)|_=>bq)
 |.fn _ _,a=>jm b a 24 .nilFunc&&(match b.underlying a with|some (.func _ _ _)=>bp|_=>bq)
 |.st c,a=>cb 0 c.size&&match b.info? a with
  |some f=>bH f.size c.size&&b2 f.bytes (24*c.size)&&(match f.zero with
   |some (.agg h)=>bH h.size c.size&&(match b.underlying a with|some (.struct i)=>sK b c i.toList 0 h.toList|_=>bq)
   |_=>bq)
  |none=>bq
 |_,_=>bq
def sK (c:b0):ah->bm aio->X->ahS->bA
 |.pr a f,d::h,e,b=>bH d.offset e&&hU c a d.type&&cb 0 a.size&&(match c.info? d.type with|some g=>(match g.zero with|some i=>vJ (b.take a.size) i.cells.toList|none=>bq)|none=>bq)&&sK c f h (e+a.size) (b.drop a.size)
 |.nil,[],_,b=>b.isEmpty
 |_,_,_,_=>bq
end
mutual
theorem hU.ok {n:b0}:∀{o:ah} {i:bF},hU n o i=bp->fj n o i
 |.int z,i,a=>by
  simp only[hU,cC] at a;obtain⟨c,b⟩:=a;obtain⟨e,aw,f,g,h⟩:=jm.ok c;split at b
  ·rename_i A d;split at b
   ·rename_i p;subst p;exact⟨e,aw,f,g,h,d⟩
   grind
  grind
 |.bool,i,a=>by
  simp only[hU,cC] at a;obtain⟨c,b⟩:=a;obtain⟨e,aw,f,g,h⟩:=jm.ok c;split at b
  ·rename_i d;exact⟨e,aw,f,g,h,d⟩
  grind
 |.str,i,a=>by
  simp only[hU,cC] at a;obtain⟨c,b⟩:=a;obtain⟨e,aw,f,g,h⟩:=jm.ok c;split at b
  ·rename_i d;exact⟨e,aw,f,g,h,d⟩
  grind
 |.a2 _ k,i,a=>by
  simp only[hU,cC] at a;obtain⟨c,b⟩:=a;obtain⟨e,aw,f,g,h⟩:=jm.ok c;split at b
  ·rename_i j d;exact⟨e,j,aw,f,g,h,d,hU.ok b⟩
  grind
 |.osl k,i,a=>by
  simp only[hU,cC] at a;obtain⟨c,b⟩:=a;obtain⟨e,aw,f,g,h⟩:=jm.ok c;split at b
  ·rename_i j d;exact⟨e,j,aw,f,g,h,d,hU.ok b⟩
  grind
 |.ptr _ k,i,a=>by
  simp only[hU,cC] at a;obtain⟨c,b⟩:=a;obtain⟨e,aw,f,g,h⟩:=jm.ok c;split at b
  ·rename_i j d;exact⟨e,j,aw,f,g,h,d,hU.ok b⟩
  grind
 |.optr k,i,a=>by
  simp only[hU,cC] at a;obtain⟨c,b⟩:=a;obtain⟨e,aw,f,g,h⟩:=jm.ok c;split at b
  ·rename_i j d;exact⟨e,j,aw,f,g,h,d,hU.ok b⟩
  grind
 |.mp k,i,a=>by
  simp only[hU,cC] at a;obtain⟨c,b⟩:=a;obtain⟨e,aw,f,g,h⟩:=jm.ok c;split at b
  ·rename_i l j d;split at b
   ·rename_i m;exact⟨e,l,j,aw,f,g,h,d,m,hU.ok b⟩
   grind
  grind
 |.fx _ k,i,a=>by
  simp only[hU,cC] at a;obtain⟨c,b⟩:=a;obtain⟨e,aw,f,g,h⟩:=jm.ok c;split at b
  ·rename_i l j d;split at b
   ·rename_i m;exact⟨e,l,j,aw,f,g,h,d,m,hU.ok b⟩
   grind
  grind
 |.fn _ _,i,a=>by
  simp only[hU,cC] at a;obtain⟨c,b⟩:=a;obtain⟨e,aw,f,g,h⟩:=jm.ok c;split at b
  ·rename_i v w x d;exact⟨e,v,w,x,aw,f,g,h,d⟩
  grind
 |.st k,i,a=>by
  simp only[hU,cC] at a;obtain⟨r,a⟩:=a;split at a
  case h_2=>cases a
  rename_i e t;simp only[cC] at a;obtain⟨⟨c,b⟩,a⟩:=a;split at a
  case h_2=>cases a
  rename_i y u;simp only[cC] at a;obtain⟨s,a⟩:=a;split at a
  case h_2=>cases a
  rename_i q d;exact⟨gT r,e,q,y,t,fv c,gT b,u,d,sK.ok a,fv s⟩
 |.pr _ _,_,a=>by cases a
 |.nil,_,a=>by cases a
 |.eL,_,a=>by cases a
theorem sK.ok {f:b0}:∀{g:ah} {b:bm aio} {d:X} {c:ahS},sK f g b d c=bp->iD f g b d c
 |.pr h i,[],d,c,a=>by cases a
 |.pr h i,r::s,d,c,a=>by
  simp only[sK,cC] at a;obtain⟨⟨⟨⟨j,k⟩,l⟩,e⟩,m⟩:=a;split at e
  case h_2=>cases e
  rename_i p n;split at e
  case h_2=>cases e
  rename_i q o;exact⟨fv j,hU.ok k,gT l,⟨p,q,n,o,vJ.ok e⟩,sK.ok m⟩
 |.nil,[],d,c,a=>by have a:c=[]:=(by grind [sK]);exact a
 |.nil,_::_,d,c,a=>by cases a
 |.int _,b,d,c,a=>by cases b<;>cases a
 |.bool,b,d,c,a=>by cases b<;>cases a
 |.str,b,d,c,a=>by cases b<;>cases a
 |.a2 _ _,b,d,c,a=>by cases b<;>cases a
 |.ptr _ _,b,d,c,a=>by cases b<;>cases a
 |.osl _,b,d,c,a=>by cases b<;>cases a
 |.optr _,b,d,c,a=>by cases b<;>cases a
 |.st _,b,d,c,a=>by cases b<;>cases a
 |.eL,b,d,c,a=>by cases b<;>cases a
end
theorem Rd {e:b0}:∀{tt:bm (bF×ah)},(tt.all λf=>hU e f.2 f.1)=bp->∀a b,ar tt a=Y b->fj e b a
 |[],_,_,_,c=>by cases c
 |(k,g)::r,c,a,b,d=>by
  simp only[rX,cC] at c;rw[dh] at d;split at d
  ·grind [hU.ok]
  exact Rd (by grind) a b d
def Hq (a:b0):ahR->bA
 |[]=>bp
 |T::d=>!a.stoodInHeld T&&(!a.eqGuardType a.depth T&&((match a.underlying T with|some (.struct c)=>c.toList.all λb=>b.name !="_"|_=>bq)&&Hq a d))
def Mv {e:b0}:∀{d:ahR},Hq e d=bp->∀b∈d,Kw e b
 |[],_,b,a=>by cases a
 |U::d,f,b,a=>by
  simp only[Hq,cC,tC] at f;obtain⟨h,i,c,j⟩:=f;rcases fV.1 a with rfl|a
  ·split at c
   ·rename_i g k;exact⟨h,i,g,k,c⟩
   cases c
  exact Mv j b a
end
section
def pF:(i:ah)->i.den->Prop
 |.int g,h=>(Lit.int g h).wf=bp
 |.a2 _ b,c=>c.length<=maxLen/\∀a∈c,pF b a
 |.ptr _ b,a=>∀d,a=Y d->pF b d
 |.st b,a=>pF b a
 |.pr e f,a=>pF e a.1/\pF f a.2
 |_,_=>True
def sd:ah->bA
 |.int _|.bool|.str|.nil=>bp
 |.a2 _ a|.ptr _ a|.st a=>sd a
 |.pr b c=>sd b&&sd c
 |_=>bq
def Gv {P:b0} {c:ah} {a:bF} (d:fj P c a):P.cellsOf a=c.size:=by obtain⟨f,e,b,_⟩:=d.info;unfold amu;rw[b.info];simp[b.size]
section
variable {A:Type} {enc:bF×Value->A} {P:b0} {w:bD}
theorem Gw {h:X} {b:Addr} {c:ahS} (d:w.cells? h b a=Y c) (f:0<a):b.spot=bo/\c.length=a/\b.block<w.heap.size/\fr w b.block b.off c:=by
 have l:=World.cells?_block d f;obtain⟨_,k,e⟩:=World.cells?_some d;have m:b.spot=bo:=by
  have o:=e 0 f;have:(w.cell? (b.add 0)).isSome=bp:=(by grind);simp only[akH,cf] at this;unfold ai9 at this;split at this
  ·cases p:b.spot with
   |none=>rfl
   |some t=>grind
  grind
 refine⟨m,k,l,λg s i=>?_⟩;have j:g<a:=(by grind);have:=e g j;rw[i] at this;rw[<-this];congr 1;unfold akH;obtain⟨n,q,r⟩:=b;grind
def Bm (w:bD):eC->X->Prop:=λ_ a=>a<w.heap.size
mutual
theorem Fs:∀{τ:ah} {j:bF} {i:ahS} {l:X} {o:DataW A×bm ajB},sd τ=bp->fj P τ j->alF enc P w 0 (λ_=>bp) bp l j i=Y o->∃a:τ.den,aR (Bm w) w τ i a []/\pF τ a
 |.int n,j,i,l,o,_,⟨b,_,_,_,_,h⟩,d=>by obtain⟨x,rfl,_,ad⟩:=DataW.trod_int h d;exact⟨x,⟨bn,bn⟩,ad⟩
 |.bool,j,i,l,o,_,⟨b,_,_,_,_,h⟩,d=>by obtain⟨y,rfl,_⟩:=DataW.trod_bool h d;exact⟨y,⟨bn,bn⟩,trivial⟩
 |.str,j,i,l,o,_,⟨b,_,_,_,_,h⟩,d=>by obtain⟨av,rfl,_,_⟩:=DataW.trod_string h d;exact⟨av,⟨bn,bn⟩,trivial⟩
 |.a2 an c,j,i,l,o,g,⟨b,O,_,_,_,_,h,m⟩,d=>by
  rcases DataW.trod_slice h d with⟨rfl,_⟩|⟨e,u,Q,F,ds,x,rfl,rfl,_,_,cv,bx,ce,K,_⟩
  ·exact⟨[],⟨bn,bo,0,bn,bc _,λ_=>rfl,.inl bn⟩,by grind,ac⟩
  have H:=Gv m;have L:=m.pos;have E:∀b,b<u->∃a:c.den,∃f:ahS,f.length=c.size/\w.cells? 0 (e.add (b*c.size)) c.size=Y f/\aR (Bm w) w c f a []/\pF c a:=by
   intro b v;have s:=K b v;have t:F[b]?=Y (F[b]'(by omega)):=ba _
   rw[t] at s;obtain⟨f,q,z⟩:=eO.1 s;rw[H] at q;obtain⟨a,k,r⟩:=Fs (τ:=c) g m z;exact⟨a,f,k.len,q,k,r⟩
  have U:∀n,n<=u->∃p:bm c.den,p.length=n/\∀(b:X) (a:c.den),p[b]?=Y a->∃f:ahS,f.length=c.size/\w.cells? 0 (e.add (b*c.size)) c.size=Y f/\aR (Bm w) w c f a []/\pF c a:=by
   intro n
   induction n with
   |zero=>simp_all
   |succ n am=>
    intro ci;obtain⟨p,s,t⟩:=am aa;obtain⟨a,f,q⟩:=E n aa;refine⟨p++[a],by grind,λb M D=>?_⟩;grind
  obtain⟨p,s,t⟩:=U u (bc _);refine⟨p,⟨bn,Y e,Q,by rw[s],aa,(λd=>by cases d),?_⟩,aa,λa k=>?_⟩
  ·cases u with
   |zero=>grind
   |succ u=>
    right;obtain⟨d0,bl,_,I,_⟩:=E 0 aa;have T:e.add (0*c.size)=e:=(by simp[akH]);rw[T] at I;obtain⟨V,_,C,_⟩:=Gw I L;refine⟨e.block,e.off,by obtain⟨y,ap,a0⟩:=e;grind,C,λb a k=>?_⟩;obtain⟨f,a3,S,a4,_⟩:=t b a k;obtain⟨_,_,_,G⟩:=Gw S L;grind [aq,akH]
  obtain⟨b,v,rfl⟩:=ht.1 k;obtain⟨_,_,_,_,r⟩:=t b _ (ba v);exact r
 |.ptr an c,j,i,l,o,g,⟨b,O,_,_,_,_,h,m⟩,d=>by
  rcases DataW.trod_pointer h d with⟨rfl,_⟩|⟨e,R,a,x,rfl,rfl,_,q,z⟩
  ·exact⟨bo,⟨bn,bn⟩,λa d=>by cases d⟩
  rw[Gv m] at q;obtain⟨M,D,r⟩:=Fs (τ:=c) g m z;obtain⟨V,_,C,G⟩:=Gw q m.pos;refine⟨Y M,⟨bn,e.block,e.off,R,by obtain⟨y,ap,a0⟩:=e;grind,C,D.len,G,D⟩,λa d=>by grind⟩
 |.st c,j,i,l,o,g,⟨_,b,N,d1,v,c1,_,_,h,J,_⟩,d=>by
  obtain⟨p,x,rfl,_,co,c2,K⟩:=DataW.trod_struct h d;have H:P.cellsOf j=c.size:=(by grind [amu]);obtain⟨a,k,r⟩:=Rb (τ:=c) (fs:=N.toList) (cs:=i) g J aa (λdl bs J=>by
   grind)
  rw[lV] at k;exact⟨a,k,r⟩
 |.osl _,_,_,_,_,g,_,_=>by cases g
 |.optr _,_,_,_,_,g,_,_=>by cases g
 |.pr _ _,_,_,_,_,_,B,_=>B.elim
 |.nil,_,_,_,_,_,B,_=>B.elim
 |.eL,_,_,_,_,g,_,_=>by cases g
theorem Rb:∀{τ:ah} {fs:bm aio} {c:X} {f cs:ahS},sd τ=bp->iD P τ fs c f->cs.length=c+τ.size->(∀(e:X) b,fs[e]?=Y b->∃(j:X) (k:DataW A×bm ajB),alF enc P w 0 (λ_=>bp) bp j b.type ((cs.drop b.offset).take (P.cellsOf b.type))=Y k)->∃l:τ.den,aR (Bm w) w τ (cs.drop c) l []/\pF τ l
 |.pr y z,b::D,c,f,cs,d,p,r,i=>by simp only[sd,cC] at d;obtain⟨n,g,B,_,o⟩:=p;obtain⟨j,k,h⟩:=i 0 b bn;rw[n,Gv g] at h;obtain⟨v,s,t⟩:=Fs d.1 g h;obtain⟨x,C,u⟩:=Rb (cs:=cs) d.2 o (by grind [aiq]) (λe m q=>i (e+1) m q);exact⟨(v,x),⟨[],[],bn,s,by simp_all⟩,t,u⟩
 |.nil,[],c,f,cs,_,_,r,_=>by refine⟨(),⟨bn,?_⟩,trivial⟩;grind [List.drop_eq_nil_iff,aiq]
 |.pr _ _,[],_,_,_,_,a,_,_=>a.elim
 |.nil,_::_,_,_,_,_,a,_,_=>a.elim
 |.int _,fs,_,_,_,_,a,_,_=>by cases fs<;>exact a.elim
 |.bool,fs,_,_,_,_,a,_,_=>by cases fs<;>exact a.elim
 |.str,fs,_,_,_,_,a,_,_=>by cases fs<;>exact a.elim
 |.a2 _ _,fs,_,_,_,_,a,_,_=>by cases fs<;>exact a.elim
 |.ptr _ _,fs,_,_,_,_,a,_,_=>by cases fs<;>exact a.elim
 |.osl _,fs,_,_,_,_,a,_,_=>by cases fs<;>exact a.elim
 |.optr _,fs,_,_,_,_,a,_,_=>by cases fs<;>exact a.elim
 |.st _,fs,_,_,_,_,a,_,_=>by cases fs<;>exact a.elim
 |.eL,fs,_,_,_,_,a,_,_=>by cases fs<;>exact a.elim
end
theorem aaK {g:ah} {h:bF} (l:sd g=bp) (e:fj P g h) (d:ajC P w .any a h b):b=cX g b.cells.toList:=by
 cases g with
 |int r=>
  obtain⟨f,_,_,_,_,c⟩:=e;obtain⟨i,rfl⟩:=anu c d;rfl
 |bool=>
  obtain⟨f,_,_,_,_,c⟩:=e;obtain⟨i,rfl⟩:=anv c d;rfl
 |str=>
  obtain⟨f,_,_,_,_,c⟩:=e;obtain⟨i,rfl⟩:=anw c d;rfl
 |a2 m j=>
  obtain⟨f,k,_,_,_,_,c,_⟩:=e;obtain⟨n,s,o,rfl⟩:=anx c d;rfl
 |ptr m j=>
  obtain⟨f,k,_,_,_,_,c,_⟩:=e;simp only[ajC,c,Cell.okWide] at d;cases b<;>first|rfl|simp_all [Cell.ok]
 |st j=>
  obtain⟨_,f,q,t,_,_,_,_,c,_,_⟩:=e;simp only[ajC,c] at d;obtain⟨p,rfl,_⟩:=d;rfl
 |_=>first|(cases l;done)|exact e.elim
def wj (P:b0):bm hl->ahR->bA
 |[],[]=>bp
 |.v a::c,b::d=>sd a&&hU P a b&&wj P c d
 |_,_=>bq
def pG:(d:bm hl)->hp d->Prop
 |[],_=>True
 |.v e::b,a=>pF e a.1/\pG b a.2
 |.m _::b,a=>pG b a.2
 |.o _::b,a=>pG b a.2
 |.c _ _::b,a=>pG b a.2
 |.n::b,a=>pG b a.2
 |.w _::b,a=>pG b a.2
 |.s _ _::b,a=>pG b a.2
def Li {P:b0}:∀{ps:bm hl} {b:ahR} {k:X},wj P ps b=bp->ju k ps=bo
 |[],_,_,_=>rfl
 |.v g::d,e::f,k,a=>by simp only[wj,cC] at a;exact Li (ps:=d) (k:=k+1) a.2
 |.v _::_,[],_,a=>by cases a
 |.m _::_,b,_,a=>by cases b<;>cases a
 |.o _::_,b,_,a=>by cases b<;>cases a
 |.c _ _::_,b,_,a=>by cases b<;>cases a
 |.n::_,b,_,a=>by cases b<;>cases a
 |.w _::_,b,_,a=>by cases b<;>cases a
 |.s _ _::_,b,_,a=>by cases b<;>cases a
def AP {b:Type}:bm b->ev
 |[]=>[]
 |_::a=>[]::AP a
theorem E2 {b:Type}:∀a:bm b,(AP a).flatten=[]
 |[]=>rfl
 |_::a=>by simp only[AP,lW,E2 a,iu]
theorem Lk:∀{f:bm hl} {l:ahR} {base:X} {b:ahS} {i:bm (DataW A)} {r:bm ajB},wj P f l=bp->ajD enc P w 0 (λ_=>bp) bp l b i r->(∀(j:X) k g,l[j]?=Y k->b[j]?=Y g->ajC P w .any base k g)->∃h:hp f,pG f h/\∀{x:Type} (d:iM f x),mm (x8 (λd=>d<w.heap.size) (λ_=>b6) w) (gG f h d) b (AP b)
 |[],[],base,b,i,r,_,q,_=>by cases b<;>cases i<;>first|exact⟨(),trivial,λ_=>trivial⟩|exact q.elim
 |.v U::Q,y::x,base,b,i,r,e,q,u=>by
  simp only[wj,cC] at e;obtain⟨⟨s,z⟩,B⟩:=e;obtain⟨g,T,K,L,R,S,rfl,rfl,rfl,p,C⟩:=alG q;obtain⟨M,p⟩:=p;have t:=hU.ok z;obtain⟨J,G,F⟩:=Fs s t p;obtain⟨h,D,E⟩:=Lk B C (λj k I N O=>u (j+1) k I (by grind) (by grind));refine⟨(J,h),⟨F,D⟩,λd=>⟨⟨bn,g.cells.toList,aaK s t (u 0 y g bn rfl),?_⟩,E d⟩⟩;exact G.mono (λH d e=>⟨by cases H with
   |bg=>exact e
   |df=>exact .inl e,cq _ _⟩) ac
 |[],_::_,_,_,_,_,a,_,_=>by cases a
 |.v _::_,[],_,_,_,_,a,_,_=>by cases a
 |.m _::_,_,_,_,_,_,a,_,_=>by cases a
 |.o _::_,_,_,_,_,_,a,_,_=>by cases a
 |.c _ _::_,_,_,_,_,_,a,_,_=>by cases a
 |.n::_,_,_,_,_,_,a,_,_=>by cases a
 |.w _::_,_,_,_,_,_,a,_,_=>by cases a
theorem Ra {P:b0} (k:laidOutB P=bp) {i j:bD} {o:X->bA}:∀{e:ahR} {d:ahS} {c:bm (DataW A)} {b:bm ajB},(∀g∈e,P.readableRec g=bp/\g<P.types.size)->ajD enc P i 0 (λ_=>bp) bp e d c b->(∀a∈b,i.sameAt j a)->(∀a∈b,o a.block=bp)->ajD enc P j 0 o bp e d c b
 |[],d,c,b,_,f,_,_=>by cases d<;>cases c<;>first|exact f|exact f.elim
 |T::e,d,c,b,l,f,m,n=>by obtain⟨y,z,v,w,r,s,rfl,rfl,rfl,p,q⟩:=alG f;obtain⟨t,u⟩:=l T ac;exact⟨r,s,anz k t u p (λa h=>m a (by grind)) (λa h=>n a (by grind)),Ra k (λg x=>l g (by grind)) q (λa h=>m a (by grind)) (λa h=>n a (by grind)),bn⟩
theorem Wq {E:fB} {F:jx} {h:Func} {l:ChangeSpec} {T:bF} (bl:aD E F) (eq:laidOutB E.P=bp) (d0:(h.params.toList.all λe=>E.P.readableRec e&&cb e E.P.types.size)=bp) (U:wj E.P F.ps h.params.toList=bp) (_hrs:F.rs=[.bool]) (I:h.resultTypes=#[T]) (u:E.P.underlying T=Y .bool) (an:l.vars=[]) (ft:∀d:bm (DataW A),d.length=h.params.toList.length->l.fn A d=⟨[.lit (.bool bp)],d,[]⟩) (d4:∀t,pG F.ps t->∃b,F.xW t=Y b/\iT F.rs (ip F.ps b)=[⟨.bool,bp⟩]) {G a3 ci a0:bA} {p:ahQ} {d z:bm (DataW A)} {i:bm ajB} (d5:∀(r:X) e o,h.params[r]?=Y e->p[r]?=Y o->ajC E.P c .any a e o) (J:DataW.Whole enc E.P h.params.toList l.vars G c p.toList d z i) (bs:lm E (λb=>b<c.heap.size) c):Calls E.P F.f p c λH g=>∃o,H=.returned o/\l.post enc E.P h G a3 ci a0 c p o g:=by
 have K:=J;obtain⟨C,d6,a4,B,S,cs,ex⟩:=J;rw[an] at B;have cv:z=[]/\d6=[]:=by cases z with
  |nil=>exact⟨bn,B⟩
  |cons=>exact B.elim
 obtain⟨rfl,rfl⟩:=cv;rw[mN] at S;subst S;obtain⟨t,ds,ce⟩:=Lk (w:=c) (base:=a) U a4 (λr e o ad am=>d5 r e o (by grind) (by grind));obtain⟨b,bx,d1⟩:=d4 t ds;have em:∀{s:ahR} {D:ahS} {d:bm (DataW A)} {C:bm ajB},ajD enc E.P c 0 (λ_=>bp) bp s D d C->d.length=s.length:=by
  intro s
  induction s with
  |nil=>intro D d C q;cases D<;>cases d<;>first|rfl|exact q.elim
  |cons T s fT=>
   grind [alG]
 have O:l.fn A (d++[])=⟨[.lit (.bool bp)],d,[]⟩:=(by grind);have R:=K.lt;have M:=bl.2 t b bx c (λb=>b<c.heap.size) (λ_=>b6) p.toList (AP p.toList) (λb q=>q.elim id (λq=>q.elim)) (ce b) (by grind [E2]) (by rw[E2];simp) (by rw[AV,Li U];trivial);rw[amv] at M;refine(M bs).mono ?_;rintro H g ⟨d7,d9,v,y,rfl,n⟩;refine⟨_,bn,?_⟩;have d3:qd y=.bool bp:=by
  have:=n.res;rw[d1] at this;cases y with
  |nil=>cases v<;>exact this.elim
  |cons o y=>
   cases v with
   |nil=>exact this.elim
   |cons ek v=>
    obtain⟨⟨d8,am,_,rfl⟩,d2⟩:=this;cases y with
    |nil=>exact am
    |cons=>cases v<;>exact d2.elim
 have Q:∀b,b<c.heap.size->g.heap[b]?=c.heap[b]?:=λb u=>n.heap b u (by rw[E2];simp);have fp:∀j∈i,c.sameAt g j:=λj x=>by
  have:=Q j.block (R j x);cases j with
  |cell b k=>show g.cell? _=c.cell? _;unfold ai9;rw[show g.heap[b]?=c.heap[b]? from this]
  |map b=>exact this
 have co:∀b k,amw b k∈i->g.frozen? ⟨b,k,bo⟩=c.frozen? ⟨b,k,bo⟩:=λb k x=>(by unfold aks;rw[show g.heap[b]?=c.heap[b]? from Q b (R _ x)]);rw[d3];have fl:∀e∈h.params.toList,E.P.readableRec e=bp/\e<E.P.types.size:=λe ad=>(by have:=gY.1 d0 e ad;simp_all);have L:∀m:X->bA,(∀j∈i,m j.block=bp)->ajD enc E.P g 0 m bp h.params.toList p.toList (l.fn A (d++[])).args i:=λm fs=>(by grind [Ra]);have V:∀(b:X) (m:X->bA) (N:bA),ajD enc E.P g b m N h.resultTypes.toList ((amx bp).resultList h.resultTypes.size) (l.fn A (d++[])).results []:=λb m N=>(by rw[O,I];exact anA ⟨1,by unfold alF;rw[u];rfl⟩);have ap:∀m:X->bA,DataW.TrodVars enc E.P g m l.vars (l.fn A (d++[])).vars []:=λm=>(by rw[O,an];rfl);have c2:∀(r:X) (e:bF) (av:Value),h.resultTypes[r]?=Y e->((amx bp).resultList h.resultTypes.size)[r]?=Y av->ajC E.P g .any 0 e av:=
  Go.RowKit.ok_one I bn (Go.RowKit.okWide_bool_mk u bp)
 have dl:∀j∈i,(λb=>br (b<c.heap.size)) j.block=bp:=λj x=>(by grind);have c1:c.keptBut g (λ_=>b6):=(by refine⟨n.os,n.output,λfz el=>?_⟩;grind);refine⟨d,[],i,[],i,[],K,V _ _ _,L _ dl,ap _,World.keptBut_mono (λ_ q=>q.elim) c1,λ_=>?_⟩;refine⟨c2,_,_,([]++i)++[],⟨[]++i,[],anB (L _ (λ_ _=>rfl)) (V _ _ _),ap _,bn,?_,?_⟩,?_⟩
 ·intro b k n;have n:amw b k∈i:=(by grind);rw[co b k n];exact cs b k n
 ·grind
 grind
end
end
section
inductive FI where
 |a
 |b (f:ahY)
 |c (f m:ahY)
def Hf (a:X):X:=a/32+a %32*500000
abbrev abJ (a:X):X×oO:=(a,.s (.ref a []))
abbrev Kh (a:X):X×oO:=(a,.v (.int .i64))
inductive oF where
 |l
 |o (a:oF)
 |t (j:FO) (a b:oF)
 |n (b:oF)
 |p (AZ:ng) (m:FP) (a:oF)
 |k (l:ahY) (a:oF)
 |z (F:ahY) (a:oF)
 |d (L:bm FI)
def E8 (b:bU bR) (a:X) (f c:ahY):lS:=match b[a]? with
 |some d=>⟨a,dl d,d.looksAt b,qa b a,f,c⟩
 |none=>⟨a,[],[],[],f,c⟩
def Dz (d:bU bR):X->bm FI->bm lS
 |_,[]=>[]
 |i,.a::e=>E8 d i [] []::Dz d (i+1) e
 |i,.b f::e=>E8 d i (f.map Hf) []::Dz d (i+1) e
 |i,.c f g::e=>E8 d i (f.map Hf) (g.map Hf)::Dz d (i+1) e
def sI:Code->mg
 |.seq a b=>.two .none (sI a) (sI b)
 |.cond _ a b=>.two .none (sI a) (sI b)
 |.block _ a=>.one (sI a)
 |.region _ c bp=>.draw ((bI c.size).map λd=>E8 c d [] [])
 |_=>.leaf
def AB:X->X->bm aZ
 |0,_=>[]
 |k+1,a=>match a %5 with
  |1=>.deref::AB k (a/5)
  |2=>.unst::AB k (a/5)
  |3=>.fst::AB k (a/5)
  |4=>.snd::AB k (a/5)
  |_=>[]
def oF.ex:oF->Code->mg
 |.l,a=>sI a
 |.o b,.block _ a=>.one (b.ex a)
 |.t J b c,.seq a e=>.two J (b.ex a) (c.ex e)
 |.t J b c,.cond _ a e=>.two J (b.ex a) (c.ex e)
 |.n c,.seq a e=>.two .none (sI a) (c.ex e)
 |.n c,.cond _ a e=>.two .none (sI a) (c.ex e)
 |.p j h b,.loop a=>.loop j h (b.ex a)
 |.k g b,a=>.keep g (b.ex a)
 |.z f b,a=>match f with
  |[q]=>bif b2 1000000 q then .fp (q %1000000) (AB 12 (q/1000000)) (b.ex a) else bif bH q 888888 then .yL else .p0 f (b.ex a)
  |_=>.p0 f (b.ex a)
 |.d g,.region _ i _=>.draw (Dz i 0 g)
 |_,_=>.leaf
def yv (E:fB):Type:={a:bm (X×jx)//∀b∈a,aD E b.2}
def aG {E:fB}:yv E:=⟨[],Q4⟩
def aj {E:fB} {a:jx} (c:aD E a) (b:yv E):yv E:=⟨(a.f,a)::b.1,adE c b.2⟩
section
variable {E:fB} {f:X} {fn:Func} {ps:bm hl} {C:bm ah} {D:hp ps->bv (iM ps (lJ C))}
def aD.q (d:yv E) (l:oF) (k:E.P.funcs[f]?=Y fn) (j:∀(h:ahQ) (i:bD),(callFunc f h).run E.P i=.ok (.enter f h) i) (g:bm (X×ah):=[]) (e:ah0:=[]) (a:(fn.body.isSome&&b2 ps.length fn.ntmps)=bp:=by kernel_rfl) (c:∀b,zZ ⟨E.tt,d.1,g,fn.ntmps,jU 0 ps++nO (ju 0 ps),[],e,ju 0 ps,[],[],E.glob,E.eqs⟩ (l.ex (fn.body.getD .skip)) (fn.body.getD .skip) ps fn.results.toList C b=D b:=by intro b;kernel_rfl):aD E ⟨f,ps,C,D⟩:=
 have a:=cC _ _▸a
 aD.Ox d.1 g e _ [] (λ_ c=>by cases c) k a.1 amv.symm a.2 j d.2 c
end
end
def k6 (a:X):X×X:=bif cb (a %32) 28 then(a %32,a/32) else bif bH (a %32) 31 then(a/32 %134217728,a/4294967296) else((a %32-28)*256+a/32 %256+28,a/8192)
def nL {c:Type} (b:X->c×X):X->X->bm c×X
 |0,a=>([],a)
 |k+1,a=>match a %2 with
  |0=>([],a/2)
  |_=>match b (a/2) with
   |(x,t)=>match nL b k t with
    |(l,u)=>(x::l,u)
def Jr (a:bm ah) (b:X):ah×X:=match k6 b with
 |(i,t)=>(a.getD i .nil,t)
def nM {a b:Type} (c:X->a×X) (d:X->b×X) (e:X):(a×b)×X:=match c e with
 |(x,t)=>match d t with
  |(y,u)=>((x,y),u)
def abW (b:bm ah) (a:X):(X×oO)×X:=match a %4 with
 |0=>match k6 (a/4) with
  |(k,t)=>(abJ k,t)
 |1=>match k6 (a/4) with
  |(k,t)=>(Kh k,t)
 |2=>match nM k6 (Jr b) (a/4) with
  |((k,x),t)=>((k,.v x),t)
 |_=>match nM k6 k6 (a/4) with
  |((k,x),t)=>((k,.s (.ref x [])),t)
def AL (a:bm ah) (b:X):ng×X:=match nM (nL (abW a) 99) (nL (nM k6 (Jr a)) 99) b with
 |((x,y),t)=>(⟨x,y⟩,t)
def abV (b:bm ah) (a:X):FO×X:=match a %3 with
 |0=>(.none,a/3)
 |1=>match nM (nL k6 99) (AL b) (a/3) with
  |((x,y),t)=>(.x x y,t)
 |_=>match nM (nL k6 99) (AL b) (a/3) with
  |((x,y),t)=>(.vG x y,t)
def abX (b:bm ah) (a:X):FP×X:=match a %3 with
 |0=>(.r,a/3)
 |1=>match nM k6 (AL b) (a/3) with
  |((x,y),t)=>(.x x y,t)
 |_=>match nM k6 (AL b) (a/3) with
  |((x,y),t)=>(.vG x y,t)
def Jp (a:X):X×X:=match a %2 with
 |0=>match k6 (a/2) with
  |(k,t)=>(k*32,t)
 |_=>match k6 (a/64) with
  |(k,t)=>(k*32+a/2 %32,t)
def abU (d:X):FI×X:=match d %3 with
 |0=>(.a,d/3)
 |1=>match nL Jp 99 (d/3) with
  |(x,t)=>(.b x,t)
 |_=>match nM (nL Jp 99) (nL Jp 99) (d/3) with
  |((x,y),t)=>(.c x y,t)
def tg (e:bm ah):X->X->oF×X
 |0,c=>(.l,c)
 |k+1,c=>match c %8 with
  |0=>(.l,c/8)
  |1=>match tg e k (c/8) with
   |(a,t)=>(.o a,t)
  |2=>match abV e (c/8) with
   |(f,t)=>match tg e k t with
    |(a,t)=>match tg e k t with
     |(b,t)=>(.t f a b,t)
  |3=>match tg e k (c/8) with
   |(a,t)=>(.n a,t)
  |4=>match nM (AL e) (abX e) (c/8) with
   |((x,y),t)=>match tg e k t with
    |(a,t)=>(.p x y a,t)
  |5=>match nL k6 99 (c/8) with
   |(x,t)=>match tg e k t with
    |(a,t)=>(.k x a,t)
  |6=>match nL k6 99 (c/8) with
   |(x,t)=>match tg e k t with
    |(a,t)=>(.z x a,t)
  |_=>match nL abU 999 (c/8) with
   |(x,t)=>(.d x,t)
def Jq (b:bm ah) (c:X):oF×bm (X×ah)×ah0:=match tg b 999 c with
 |(a,t)=>match nM (nL (nM k6 (Jr b)) 99) (nL (nM k6 k6) 99) t with
  |((x,y),_)=>(a,x,y)
def To {c:b0} {b:Func} (i:c.funcs[a]?=Y b) (j:(b.name=="runtime.NumGoroutine")=bq) (h:b.body.isSome=bp) (d:ahQ) (e:bD):(callFunc a d).run c e=.ok (.enter a d) e:=by have f:b.name≠"runtime.NumGoroutine":=(by simpa using j);obtain⟨k,g⟩:=ak5.1 h;simp[callFunc,i,f,g,Sem.run]
section
def ae {α:Type} (c:bv α) (b:α->Prop):Prop:=∃a,c=Y a/\b a
section
variable {α A σ ρ τ:Type}
theorem ae.af {a:α} {b:α->Prop}:ae (Y a) b↔b a:=⟨λ⟨_,c,d⟩=>by grind,λc=>⟨a,bn,c⟩⟩
theorem ae.s7 {a:α->Prop}:ae bo a↔False:=⟨(λ⟨_,b,_⟩=>by cases b),False.elim⟩
theorem ae.e6 {x:bv α} {b:α->bv A} {a:A->Prop}:ae (x.bind b) a↔ae x (λc=>ae (b c) a):=by
 cases x with
 |none=>grind [ae.s7]
 |some c=>grind [ae.af]
theorem ae.It {a:bv α} {c:α->A} {b:A->Prop}:ae (a.map c) b↔ae a (λd=>b (c d)):=by
 cases a with
 |none=>grind [ae.s7]
 |some d=>grind [ae.af]
theorem ae.fb {b:bA} {c d:bv α} {a:α->Prop}:ae (bif b then c else d) a↔(b=bp->ae c a)/\(b=bq->ae d a):=by grind
theorem ae.mono {c:bv α} {P b:α->Prop} (d:ae c P) (g:∀a,P a->b a):ae c b:=let⟨a,e,f⟩:=d;⟨a,e,g a f⟩
def ae.eq_iff {c:bv α} {b:α}:ae c (· =b)↔c=Y b:=⟨λ⟨e,a,d⟩=>by rw[a,d],λa=>⟨b,a,bn⟩⟩
theorem ae.MX {a:bm α} {b:α->Prop}:ae (ao a d) b↔∃(e:d.toNat<a.length),0<=d/\b a[d.toNat]:=by
 unfold ao;by_cases c:0<=d
 ·rw[au c];grind [ajE,ae.s7,bS,ae.af]
 rw[ax c,ae.s7];grind
theorem ae.kB {b:bm α} {c:α->Prop}:ae (ao b (a:Z)) c↔∃(d:a<b.length),c b[a]:=by rw[ae.MX];simp
theorem ae.D5:ae (bj a d) j↔(0<=d/\d.toNat<a)/\j d.toNat:=by
 unfold bj;by_cases b:0<=d/\d.toNat<a
 ·simp_all [au,ae.af]
 rw[ax b,ae.s7];simp[b]
theorem ae.xv {b:bt->Prop}:ae (cD a) b↔a<=hB/\b ():=by
 unfold cD;by_cases c:a<=hB
 ·simp_all [au,ae.af]
 rw[ax c,ae.s7];simp[c]
theorem ae.Is {a:Z}:ae (fY d a) j↔(0<=d/\d<=a/\a<=(hB:Z))/\j d.toNat:=by
 unfold fY;by_cases b:0<=d/\d<=a/\a<=(hB:Z)
 ·simp_all [au,ae.af]
 rw[ax b,ae.s7];simp[b]
def a9 (d:bm α) (c:X) (b:α->bv A):bv A:=match d[c]? with
 |some a=>b a
 |none=>bo
theorem ae.BC {b:bm α} {d:α->bv A} {c:A->Prop}:ae (a9 b a d) c↔∃(e:a<b.length),ae (d b[a]) c:=by grind [ajE,ae.s7,bS,a9]
theorem ae.loop {g:σ->bv (σ⊕ρ)} {f:ρ->Prop} (d:σ->Prop) (e:σ->X) {a:σ} (m:d a) (k:∀a,d a->ae (g a) (λ|.inl l=>d l/\e l<e a|.inr b=>f b)):ae (loop g a) f:=by
 have o:∀c a,e a<=c->d a->∃b,j2 g (c+1) a=Y b/\f b:=by
  intro c
  induction c with
  |zero=>
   intro a n j;obtain⟨p,h,i⟩:=k a j;grind [j2]
  |succ c q=>
   intro a n j;obtain⟨p,h,i⟩:=k a j;grind [j2]
 obtain⟨b,h,i⟩:=o (e a) a (bc _) m;exact⟨b,xy.2 ⟨_,h⟩,i⟩
theorem ae.for {h:Z×τ->bv ((Z×τ)⊕ρ)} {g:ρ->Prop} (b:X) (e:X->τ->Prop) {i0:X} {m:τ} (o:d=(i0:Z)) (n:e i0 m) (k:i0<=b) (q:∀a c,i0<=a->a<b->e a c->ae (h ((a:Z),c)) (λ|.inl l=>l.1=((a+1:X):Z)/\e (a+1) l.2|.inr i=>g i)) (s:∀c,e b c->ae (h ((b:Z),c)) (λ|.inl _=>b6|.inr i=>g i)):ae (jf.loop h (d,m)) g:=by
 subst o;refine ae.loop (λf=>∃a:X,i0<=a/\a<=b/\f.1=(a:Z)/\e a f.2) (λf=>b-f.1.toNat) ⟨i0,bc _,k,bn,n⟩ ?_;rintro⟨t,c⟩ ⟨a,p,k,rfl,r⟩;rcases cO a b with j|j
 ·refine(q a c p j r).mono ?_;grind
 grind [mono]
end
theorem aeo (a:Z):bK.wrap a=if(9223372036854775808:Z)<=a %18446744073709551616 then a %18446744073709551616-18446744073709551616 else a %18446744073709551616:=by
 unfold ajF;by_cases b:(9223372036854775808:Z)<=a %18446744073709551616
 ·rw[au b];exact au (show(bp&&br (a %18446744073709551616>=(9223372036854775808:Z)))=bp by simp[b])
 rw[ax b];exact ax (show¬(bp&&br (a %18446744073709551616>=(9223372036854775808:Z)))=bp by simp[b])
theorem wrap64 (a:-9223372036854775808<=d) (b:d<=9223372036854775807):bK.wrap d=d:=by grind [aeo]
theorem iO (b:a<9223372036854775807):bK.wrap ((a:Z)+1)=((a+1:X):Z):=by grind [wrap64]
end
section
abbrev al {α:Type} (a:bm α):Z:=((a.length:X):Z)
abbrev ay (a:Z):Z:=bK.wrap a
abbrev aL (a:Z):Z:=bC.wrap a
abbrev dc (a:Z):Z:=cc.wrap a
abbrev aP (a:Z):Z:=bK.wrap (a+1)
def rd {α A:Type} (a:bm α) (c:Z) (e:α->bv A):bv A:=(bj a.length c).bind λd=>(a9 a d λb=>Y b).bind e
def wr {α A:Type} (a:bm α) (c:Z) (e:α) (d:bm α->bv A):bv A:=(bj a.length c).bind λb=>(a9 a b λ_=>Y (a.set b e)).bind d
section
variable {α A:Type}
def js {b:bm α} (d:a<b.length) (c:α->bv A):rd b (a:Z) c=c b[a]:=by unfold rd bj;rw[au ⟨aa,by simpa using d⟩];show(a9 b (a:Z).toNat _).bind c=_;unfold a9;rw[fC,ba d];rfl
def abY {b:bm α} {c:α} (f:0<=d) (e:b[d.toNat]?=Y c) (a:α->bv A):rd b d a=a c:=by obtain⟨g,h⟩:=hF.1 e;obtain⟨j,rfl⟩:=fR f;have i:j<b.length:=g;exact(js i a).trans (b3 a h)
theorem lO {b:bm α} (d:a<b.length) (e:α) (c:bm α->bv A):wr b (a:Z) e c=c (b.set a e):=by unfold wr bj;rw[au ⟨aa,by simpa using d⟩];show(a9 b (a:Z).toNat _).bind c=_;unfold a9;rw[fC,ba d];rfl
end
end
def B3:ea->ahW:=λ(e,h,_)=>(loop (σ:=ej) (ρ:=ed) (λ(f,c,_)=>bif br (c<((e.length:X):Z)) then(bB (α:=eo⊕dL) ((ao e c).bind λd=>bB (α:=bt⊕(eo⊕dL)) (bw (br (d<=f)==bq) (bw (br (d>=h)) (Y (.inr (.inr (.inr (.inr (bq,())))))) (Y (.inl ()))) (Y (.inr (.inr (.inr (.inr (bq,()))))))) λa=>match a with
 |.inl _=>(Y (.inl (d,())))
 |.inr b=>Y b) λa=>match a with
 |.inl (g,_)=>(Y (.inl (g,bK.wrap (c+(1:Z)),())))
 |.inr b=>Y b) else Y (.inr (.inl ()))) ((-1:Z),(0:Z),())).bind λa=>match a with
 |.inl _=>(Y (bp,()))
 |.inr b=>Y b
def sn:eo->ahW:=λ(a,_)=>Y ((a !=a),())
def um:ej->ahW:=λ(a,b,_)=>(sn (a,())).bind λ(c,_)=>(bw (c==bp) ((sn (b,())).bind λ(aJ,_)=>bw ((!aJ)==bq) (Y (br (a<b),())) (Y (bp,()))) (Y (br (a<b),())))
def CP:eo->ahW:=λ(a,_)=>Y ((a !=a),())
def uy:ea->bv eg:=λ(b,e,_)=>(loop (σ:=ej) (ρ:=eo) (λ(c,d,_)=>bw (br (c<d)) ((eJ bC (bC.wrap (bK.wrap (c+d))) (1:Z)).bind λf=>(ao b (bK.wrap f)).bind λk=>(um (k,e,())).bind λ(i,_)=>bw i (Y (.inl (bK.wrap (bK.wrap f+(1:Z)),d,()))) (Y (.inl (c,bK.wrap f,())))) (Y (.inr (c,())))) ((0:Z),((b.length:X):Z),())).bind λ(a,_)=>(bw (br (a<((b.length:X):Z))==bp) ((ao b a).bind λl=>bw ((l==e)==bq) ((ao b a).bind λj=>(CP (j,())).bind λ(g,_)=>bw (g==bp) ((CP (e,())).bind λ(h,_)=>Y (a,h,())) (Y (a,bq,()))) (Y (a,bp,()))) (Y (a,bq,())))
def wH:(dW×Z×Z×bt)->ahW:=λ(a,c,d,_)=>(ao a.1 c).bind λe=>(uy (e,d,())).bind λ(_,b,_)=>Y (b,())
def yY:dR->ahX:=λ(a,_)=>(bif br ((((a.1).length:X):Z)>(200:Z)) then Y ((6:Z),()) else((loop (σ:=eo) (ρ:=ee) (λ(d,_)=>bif br (d<(((a.1).length:X):Z)) then(bB (α:=bt⊕dQ) ((ao a.1 d).bind λj=>(B3 (j,(((a.1).length:X):Z),())).bind λ(aJ,_)=>bw ((!aJ)==bq) ((wH (a,d,d,())).bind λ(i,_)=>bw i (Y (.inr (.inr (.inr ((1:Z),()))))) (Y (.inl ()))) (Y (.inr (.inr (.inr ((1:Z),())))))) λb=>match b with
 |.inl _=>(Y (.inl (bK.wrap (d+(1:Z)),())))
 |.inr c=>Y c) else Y (.inr (.inl ()))) ((0:Z),())).bind λb=>match b with
 |.inl _=>((loop (σ:=eo) (ρ:=ee) (λ(e,_)=>bif br (e<(((a.1).length:X):Z)) then((ao a.1 e).bind λg=>(loop (σ:=eo) (ρ:=dI) (λ(f,_)=>bw (br (f<((g.length:X):Z))) ((ao g f).bind λk=>(wH (a,k,e,())).bind λ(h,_)=>bw (!h) (Y (.inr (.inr (.inr (.inr ((1:Z),())))))) (Y (.inl (bK.wrap (f+(1:Z)),())))) (Y (.inr (.inl ())))) ((0:Z),())).bind λb=>match b with
 |.inl _=>(Y (.inl (bK.wrap (e+(1:Z)),())))
 |.inr c=>Y c) else Y (.inr (.inl ()))) ((0:Z),())).bind λb=>match b with
 |.inl _=>(Y ((0:Z),()))
 |.inr c=>Y c)
 |.inr c=>Y c))
def qX:(ahZ×ahZ×bt)->ahW:=λ(b,c,_)=>(bif ((b.length:X):Z)!=((c.length:X):Z) then Y (bq,()) else((loop (σ:=eo) (ρ:=ed) (λ(a,_)=>bw (br (a<((b.length:X):Z))) ((ao b a).bind λf=>(ao c a).bind λg=>bw (f !=g) (Y (.inr (.inr (bq,())))) (Y (.inl (bK.wrap (a+(1:Z)),())))) (Y (.inr (.inl ())))) ((0:Z),())).bind λd=>match d with
 |.inl _=>(Y (bp,()))
 |.inr e=>Y e))
def zk:eh->ahW:=λ(b,_)=>(loop (σ:=eo) (ρ:=ed) (λ(a,_)=>bw (br (a<((b.length:X):Z))) ((ao b a).bind λe=>(ao b (bK.wrap (a-(1:Z)))).bind λf=>bw (br (e<=f)) (Y (.inr (.inr (bq,())))) (Y (.inl (bK.wrap (a+(1:Z)),())))) (Y (.inr (.inl ())))) ((1:Z),())).bind λc=>match c with
 |.inl _=>(Y (bp,()))
 |.inr d=>Y d
def zw:dU->bv dR:=λ(f,_)=>(loop (σ:=dr) (ρ:=dt) (λ(b,l,i,_)=>bif br (b<((f.length:X):Z)) then(loop (σ:=(Z×dW×dW×ahZ×bt)) (ρ:=dn) (λ(a,e,c,d,_)=>bif br (a<((f.length:X):Z)) then bB (α:=dn) (bB (α:=(bA×dW×dW×ahZ×bt)) (bw ((b !=a)==bp) ((ao f b).bind λt=>(ao t a).bind λu=>bw (u==bq) ((ao f a).bind λv=>(ao v b).bind λw=>Y (w,e,c,d,())) (Y (bp,e,c,d,()))) (Y (bq,e,c,d,()))) λ(q,m,j,h,_)=>
 bw q ((cD (h.length+([a]).length)).bind λ_=>Y (m,j,(h++[a]),())) (Y (m,j,h,()))) λ(r,n,p,_)=>Y (.inl (bK.wrap (a+(1:Z)),r,n,p,())) else Y (.inr (e,c,d,()))) ((0:Z),l,i,[],())).bind λ(s,g,k,_)=>(cD ((g.1).length+([k]).length)).bind λ_=>Y (.inl (bK.wrap (b+(1:Z)),s,((g.1++[k]),g.2),())) else Y (.inr (l,i,()))) ((0:Z),([],()),([],()),())).bind λ(_,o,_)=>Y (o,())
def sv:ea->ahW:=λ(b,e,_)=>(loop (σ:=eo) (ρ:=ed) (λ(a,_)=>bw (br (a<((b.length:X):Z))) ((ao b a).bind λf=>bw (f==e) (Y (.inr (.inr (bp,())))) (Y (.inl (bK.wrap (a+(1:Z)),())))) (Y (.inr (.inl ())))) ((0:Z),())).bind λc=>match c with
 |.inl _=>(Y (bq,()))
 |.inr d=>Y d
def uF:dR->ahX:=λ(a,_)=>(bif br ((((a.1).length:X):Z)>(200:Z)) then Y ((6:Z),()) else((loop (σ:=eo) (ρ:=ee) (λ(b,_)=>bif br (b<(((a.1).length:X):Z)) then(ao a.1 b).bind λh=>(zk (h,())).bind λ(aJ,_)=>bif !aJ then Y (.inr (.inr ((1:Z),()))) else((loop (σ:=eo) (ρ:=dI) (λ(f,_)=>(ao a.1 b).bind λi=>bif br (f<((i.length:X):Z)) then(bB (α:=bt⊕dv) ((ao a.1 b).bind λj=>(ao j f).bind λe=>bw (br (e<(0:Z))==bq) (bw (br (e>=(((a.1).length:X):Z))==bq) (bw ((e==b)==bq) ((ao a.1 e).bind λk=>(sv (k,b,())).bind λ(g,_)=>bw (!g) (Y (.inr (.inr (.inr (.inr (.inr ((1:Z),()))))))) (Y (.inl ()))) (Y (.inr (.inr (.inr (.inr (.inr ((1:Z),())))))))) (Y (.inr (.inr (.inr (.inr (.inr ((1:Z),())))))))) (Y (.inr (.inr (.inr (.inr (.inr ((1:Z),())))))))) λc=>match c with
 |.inl _=>(Y (.inl (bK.wrap (f+(1:Z)),())))
 |.inr d=>Y d) else Y (.inr (.inl ()))) ((0:Z),())).bind λc=>match c with
 |.inl _=>(Y (.inl (bK.wrap (b+(1:Z)),())))
 |.inr d=>Y d) else Y (.inr (.inl ()))) ((0:Z),())).bind λc=>match c with
 |.inl _=>(Y ((0:Z),()))
 |.inr d=>Y d))
def Di:ea->ahW:=λ(b,e,_)=>(loop (σ:=eo) (ρ:=ed) (λ(a,_)=>bif br (a<((b.length:X):Z)) then(bB (α:=bt⊕dP) ((ao b a).bind λf=>bw (br (f<(0:Z))==bq) ((ao b a).bind λg=>bw (br (g>=e)) (Y (.inr (.inr (.inr (bq,()))))) (Y (.inl ()))) (Y (.inr (.inr (.inr (bq,())))))) λc=>match c with
 |.inl _=>(Y (.inl (bK.wrap (a+(1:Z)),())))
 |.inr d=>Y d) else Y (.inr (.inl ()))) ((0:Z),())).bind λc=>match c with
 |.inl _=>(Y (bp,()))
 |.inr d=>Y d
def Dj:eh->ahW:=λ(b,_)=>(loop (σ:=eo) (ρ:=ed) (λ(a,_)=>bw (br (a<((b.length:X):Z))) (((Y (0)).bind λc=>(gv a).bind λd=>(g9 c d b.length).map λ_=>(c,d)).bind λe=>(ao b a).bind λi=>(sv (((b.take e.2).drop e.1),i,())).bind λ(h,_)=>bw h (Y (.inr (.inr (bp,())))) (Y (.inl (bK.wrap (a+(1:Z)),())))) (Y (.inr (.inl ())))) ((0:Z),())).bind λf=>match f with
 |.inl _=>(Y (bq,()))
 |.inr g=>Y g
def zx:dR->bv dU:=λ(a,_)=>(loop (σ:=dS) (ρ:=dU) (λ(c,g,_)=>bw (br (c<(((a.1).length:X):Z))) ((fY (((a.1).length:X):Z) (((a.1).length:X):Z)).bind λj=>(loop (σ:=(Z×eu×ahV×bt)) (ρ:=(eu×ahV×bt)) (λ(d,h,b,_)=>(ao a.1 c).bind λm=>bw (br (d<((m.length:X):Z))) ((ao a.1 c).bind λn=>(ao n d).bind λl=>(bj b.length l).bind λe=>(a9 b e λ_=>Y (b.set e bp)).bind λo=>Y (.inl (bK.wrap (d+(1:Z)),h,o,()))) (Y (.inr (h,b,())))) ((0:Z),g,bJ j bq,())).bind λ(f,i,_)=>(cD (f.length+([i]).length)).bind λ_=>Y (.inl (bK.wrap (c+(1:Z)),(f++[i]),()))) (Y (.inr (g,())))) ((0:Z),[],())).bind λ(k,_)=>
 Y (k,())
def zy:eo->bv dU:=λ(a,_)=>(loop (σ:=dS) (ρ:=dU) (λ(c,b,_)=>bw (br (c<a)) ((fY a a).bind λd=>(cD (b.length+([bJ d bq]).length)).bind λ_=>Y (.inl (bK.wrap (c+(1:Z)),(b++[bJ d bq]),()))) (Y (.inr (b,())))) ((0:Z),[],())).bind λ(e,_)=>Y (e,())
def Dk:dG->bv dN:=λ(e,a,_)=>(uF (e,())).bind λ(j,_)=>(bif j !=(0:Z) then Y (([],()),j,()) else(Di (a,(((e.1).length:X):Z),())).bind λ(aJ,_)=>bif !aJ then Y (([],()),(3:Z),()) else(Dj (a,())).bind λ(r,_)=>bif r then Y (([],()),(90:Z),()) else(zx (e,())).bind λ(s,_)=>(zy (((a.length:X):Z),())).bind λ(t,_)=>(loop (σ:=dw) (ρ:=dy) (λ(c,l,i,_)=>bif br (c<((a.length:X):Z)) then(loop (σ:=dw) (ρ:=dy) (λ(d,k,b,_)=>bif br (d<((a.length:X):Z)) then(bj b.length c).bind λf=>(ao a c).bind λv=>
 (ao s v).bind λw=>(ao a d).bind λx=>(ao w x).bind λy=>((a9 b f λm=>Y m).bind λn=>bj n.length d).bind λh=>(a9 b f λg=>(a9 g h λ_=>Y (g.set h y)).map λz=>b.set f z).bind λA=>Y (.inl (bK.wrap (d+(1:Z)),k,A,())) else Y (.inr (k,b,()))) ((0:Z),l,i,())).bind λ(u,o,_)=>Y (.inl (bK.wrap (c+(1:Z)),u,o,())) else Y (.inr (l,i,()))) ((0:Z),([],()),t,())).bind λ(_,p,_)=>(zw (p,())).bind λ(q,_)=>Y (q,(0:Z),()))
def Dl:dR->bv dB:=λ(a,_)=>(zx (a,())).bind λ(c,_)=>(fY (((a.1).length:X):Z) (((a.1).length:X):Z)).bind λb=>Y ((c,(bJ b bq,())),())
def zA:(bv dM×Z×bt)->bv eh:=λ(b,h,_)=>(loop (σ:=eb) (ρ:=eh) (λ(a,d,_)=>b.bind λj=>bw (br (a<(((j.1).length:X):Z))) (bB (α:=eh) (bB (α:=(bA×ahZ×bt)) (b.bind λk=>(ao k.1 h).bind λl=>(ao l a).bind λm=>bw (m==bp) (b.bind λn=>(ao n.2.1 a).bind λi=>Y ((!i),d,())) (Y (bq,d,()))) λ(g,c,_)=>bw g ((cD (c.length+([a]).length)).bind λ_=>Y ((c++[a]),())) (Y (c,()))) λ(e,_)=>Y (.inl (bK.wrap (a+(1:Z)),e,()))) (Y (.inr (d,())))) ((0:Z),[],())).bind λ(f,_)=>Y (f,())
def zz:(dM×Z×bt)->bv dB:=λ(h,l,_)=>(zA (Y h,l,())).bind λ(e,_)=>(loop (σ:=dz) (ρ:=dB) (λ(c,i,_)=>bif br (c<((e.length:X):Z)) then(loop (σ:=dz) (ρ:=dB) (λ(d,a,_)=>bif br (d<((e.length:X):Z)) then bB (α:=dB) (bw (c !=d) ((ao e c).bind λr=>(bj (a.1).length r).bind λf=>(ao e d).bind λq=>((a9 a.1 f λm=>Y m).bind λn=>bj n.length q).bind λj=>((a9 a.1 f λg=>(a9 g j λ_=>Y (g.set j bp)).map λs=>(a.1).set f s).map λt=>(t,a.2)).bind λu=>Y (u,())) (Y (a,()))) λ(o,_)=>
 Y (.inl (bK.wrap (d+(1:Z)),o,())) else Y (.inr (a,()))) ((0:Z),i,())).bind λ(p,_)=>Y (.inl (bK.wrap (c+(1:Z)),p,())) else Y (.inr (i,()))) ((0:Z),h,())).bind λ(b,_)=>(bj (b.2.1).length l).bind λk=>(((a9 b.2.1 k λ_=>Y ((b.2.1).set k bp)).map λv=>(v,b.2.2)).map λw=>(b.1,w)).bind λx=>Y (x,())
def zB:dR->bv (ew×Z×bt):=λ(b,_)=>(uF (b,())).bind λ(e,_)=>(bw (e !=(0:Z)) (Y ([],e,())) ((Dl (b,())).bind λ(i,_)=>(loop (σ:=(Z×dM×ew×bt)) (ρ:=dW) (λ(a,f,c,_)=>bw (br (a<(((b.1).length:X):Z))) ((zA (Y f,a,())).bind λ(d,_)=>(cD (([a]).length+d.length)).bind λ_=>(cD (c.length+([([a]++d)]).length)).bind λ_=>(zz (f,a,())).bind λ(g,_)=>Y (.inl (bK.wrap (a+(1:Z)),g,(c++[([a]++d)]),()))) (Y (.inr (c,())))) ((0:Z),i,[],())).bind λ(h,_)=>Y (h,(0:Z),())))
def Cy:ej->bv ej:=λ(b,a,_)=>(eJ bC b (32:Z)).bind λc=>(eJ bC a (32:Z)).bind λd=>(eJ bC (bC.wrap (ey bC b (4294967295:Z)*ey bC a (4294967295:Z))) (32:Z)).bind λe=>(eJ bC (bC.wrap (bC.wrap (c*ey bC a (4294967295:Z))+e)) (32:Z)).bind λf=>(eJ bC (bC.wrap (ey bC (bC.wrap (bC.wrap (c*ey bC a (4294967295:Z))+e)) (4294967295:Z)+bC.wrap (ey bC b (4294967295:Z)*d))) (32:Z)).bind λg=>Y (bC.wrap (bC.wrap (bC.wrap (c*d)+f)+g),bC.wrap (b*a),())
def GP:ej->bv ej:=λ(b,c,_)=>(Cy (b,c,())).bind λ(a,aJ,_)=>Y (a,aJ,())
def CM:ea->bv eh:=λ(f,g,_)=>bB (α:=bt) (bw (br (g<(0:Z))) bo (Y ())) λ_=>(GP (bC.wrap ((f.length:X):Z),bC.wrap g,())).bind λ(m,aJ,_)=>bB (α:=bt) (bB (α:=en) (bw (br (m>(0:Z))==bq) (Y (br (aJ>(9223372036854775807:Z)),())) (Y (bp,()))) λ(n,_)=>bw n bo (Y ())) λ_=>(fY (bK.wrap aJ) (bK.wrap aJ)).bind λe=>(loop (σ:=eb) (ρ:=eh) (λ(b,a,_)=>bif br (b<((a.length:X):Z)) then((gv b).bind λk=>(Y (a.length)).bind λh=>(g9 k h a.length).bind λ_=>(nK a.length).map λ_=>(k,h)).bind λc=>((Y (0)).bind λi=>(gv b).bind λj=>(g9 i j a.length).bind λ_=>(nK a.length).map λ_=>(i,j)).bind λd=>Y (.inl (bK.wrap (b+((min ((a.take d.2).drop d.1).length (c.2-c.1):X):Z)),jk a ((a.take d.2).drop d.1) c.1 c.2,())) else
 Y (.inr (a,()))) (((min f.length ((bJ e (0:Z)).length-0):X):Z),jk (bJ e (0:Z)) f 0 (bJ e (0:Z)).length,())).bind λ(l,_)=>Y (l,())
def Du:dx->bv dY:=λ(g,h,_)=>(loop (σ:=eb) (ρ:=dH) (λ(e,b,_)=>bif br (e<((g.length:X):Z)) then(bB (α:=eh⊕dp) ((ao g e).bind λa=>bB (α:=(ahZ×dO×bt)⊕(eh⊕dp)) (bB (α:=(bA×ahZ×dO×bt)) (bw ((a.1 !=((b.length:X):Z))==bq) (bw (br (a.2.1<=a.1)==bq) (Y (br (a.2.1>h),b,a,())) (Y (bp,b,a,()))) (Y (bp,b,a,()))) λ(o,m,l,_)=>bw o (Y (.inr (.inr (.inr (.inr ([],bq,())))))) (Y (.inl (m,l,())))) λc=>match c with
 |.inl (i,f,_)=>((CM ([e],bK.wrap (f.2.1-f.1),())).bind λ(k,_)=>(cD (i.length+k.length)).bind λ_=>Y (.inl ((i++k),())))
 |.inr d=>Y d) λc=>match c with
 |.inl (n,_)=>(Y (.inl (bK.wrap (e+(1:Z)),n,())))
 |.inr d=>Y d) else Y (.inr (.inl (b,())))) ((0:Z),[],())).bind λc=>match c with
 |.inl (j,_)=>(Y (j,(((j.length:X):Z)==h),()))
 |.inr d=>Y d
def Dw:(dO×Z×bt)->ahW:=λ(a,g,_)=>(bif br ((((a.2.2.1).length:X):Z)<bK.wrap (a.2.1-a.1)) then Y (bq,()) else((loop (σ:=eo) (ρ:=ed) (λ(b,_)=>bif br (b<(((a.2.2.1).length:X):Z)) then(bB (α:=bt⊕dP) ((ao a.2.2.1 b).bind λc=>bB (α:=en) (bw (br (b<bK.wrap (a.2.1-a.1))==bp) (Y ((c !=bK.wrap (a.1+b)),())) (Y (bq,()))) λ(f,_)=>bw f (bw f (Y (.inr (.inr (.inr (bq,()))))) (Y (.inl ()))) (bw (br (b>=bK.wrap (a.2.1-a.1))==bp) (bw (br (c<a.2.1)==bq) (bw (br (c>=g)==bq) ((ao a.2.2.1 (bK.wrap (b-(1:Z)))).bind λh=>bw (br (c<=h)) (Y (.inr (.inr (.inr (bq,()))))) (Y (.inl ()))) (Y (.inr (.inr (.inr (bq,())))))) (Y (.inr (.inr (.inr (bq,())))))) (Y (.inl ())))) λd=>match d with
 |.inl _=>(Y (.inl (bK.wrap (b+(1:Z)),())))
 |.inr e=>Y e) else Y (.inr (.inl ()))) ((0:Z),())).bind λd=>match d with
 |.inl _=>(Y (bp,()))
 |.inr e=>Y e))
def Dv:(bm dO×ahZ×dO×bt)->ahW:=λ(f,g,a,_)=>((gv (bK.wrap (a.2.1-a.1))).bind λd=>(Y ((a.2.2.1).length)).bind λe=>(g9 d e (a.2.2.1).length).map λ_=>(d,e)).bind λb=>(bif (((((a.2.2.1).take b.2).drop b.1).length:X):Z)==(0:Z) then Y ((a.2.2.2.1==(-1:Z)),()) else(ao (((a.2.2.1).take b.2).drop b.1) (0:Z)).bind λm=>(ao g m).bind λn=>bif a.2.2.2.1 !=n then Y (bq,()) else((loop (σ:=eo) (ρ:=ed) (λ(c,_)=>bw (br (c<(((((a.2.2.1).take b.2).drop b.1).length:X):Z))) ((ao (((a.2.2.1).take b.2).drop b.1) c).bind λk=>(ao f a.2.2.2.1).bind λl=>(uy (l.2.2.1,k,())).bind λ(_,j,_)=>bw (!j) (Y (.inr (.inr (bq,())))) (Y (.inl (bK.wrap (c+(1:Z)),())))) (Y (.inr (.inl ())))) ((0:Z),())).bind λh=>match h with
 |.inl _=>(Y (bp,()))
 |.inr i=>Y i))
def G3:(dO×ahT×bt)->ahW:=λ(a,b,_)=>b.bind λc=>(Dw (a,c,())).bind λ(aJ,_)=>Y ((!aJ),())
def GU:dm->ahX:=λ(b,c,_)=>(loop (σ:=eo) (ρ:=ee) (λ(a,_)=>bw (br (a<((b.length:X):Z))) ((ao b a).bind λg=>(G3 (g,c.1,())).bind λ(f,_)=>bw f (Y (.inr (.inr (a,())))) (Y (.inl (bK.wrap (a+(1:Z)),())))) (Y (.inr (.inl ())))) ((0:Z),())).bind λd=>match d with
 |.inl _=>(Y ((-1:Z),()))
 |.inr e=>Y e
def CG:dm->ahW:=λ(c,a,_)=>(GU (c,(a.1,()),())).bind λ(b,_)=>Y (br (b>=(0:Z)),())
def G4:(dO×bv dD×es×bt)->ahW:=λ(a,b,c,_)=>b.bind λe=>c.bind λf=>(Dv (e,f,a,())).bind λ(d,_)=>Y ((!d),())
def GV:di->ahX:=λ(c,b,_)=>(loop (σ:=eo) (ρ:=ee) (λ(a,_)=>bw (br (a<((c.length:X):Z))) ((ao c a).bind λg=>(G4 (g,b.1,b.2.1,())).bind λ(f,_)=>bw f (Y (.inr (.inr (a,())))) (Y (.inl (bK.wrap (a+(1:Z)),())))) (Y (.inr (.inl ())))) ((0:Z),())).bind λd=>match d with
 |.inl _=>(Y ((-1:Z),()))
 |.inr e=>Y e
def CH:di->ahW:=λ(c,a,_)=>(GV (c,(a.1,a.2.1,()),())).bind λ(b,_)=>Y (br (b>=(0:Z)),())
def uJ:dk->ahX:=λ(c,d,_)=>(yY (c,())).bind λ(i,_)=>(bif i !=(0:Z) then Y (i,()) else((Du (d,(((c.1).length:X):Z),())).bind λ(aJ,p,_)=>bB (α:=eh⊕eo) (bw ((!p)==bq) ((CG (d,(Y (((c.1).length:X):Z),()),())).bind λ(q,_)=>bw q (Y (.inr ((211:Z),()))) (Y (.inl (aJ,())))) (Y (.inr ((211:Z),())))) λa=>match a with
 |.inl (h,_)=>((CH (d,(Y d,Y h,()),())).bind λ(r,_)=>bif r then Y ((211:Z),()) else((loop (σ:=eb) (ρ:=ee) (λ(e,l,_)=>bif br (e<(((c.1).length:X):Z)) then((ao c.1 e).bind λj=>(loop (σ:=eb) (ρ:=dq) (λ(g,f,_)=>bif br (g<((j.length:X):Z)) then(bB (α:=eh⊕(eb⊕dq)) ((ao j g).bind λk=>bw (br (k>e)) (Y (.inl (f,()))) ((ao f k).bind λs=>(ao d s).bind λt=>(uy (t.2.2.1,e,())).bind λ(_,o,_)=>bw (!o) (Y (.inr (.inr (.inr (.inr (.inr ((211:Z),()))))))) (Y (.inl (f,()))))) λa=>match a with
 |.inl (m,_)=>(Y (.inl (bK.wrap (g+(1:Z)),m,())))
 |.inr b=>Y b) else Y (.inr (.inl (f,())))) ((0:Z),l,())).bind λa=>match a with
 |.inl (n,_)=>(Y (.inl (bK.wrap (e+(1:Z)),n,())))
 |.inr b=>Y b) else Y (.inr (.inl ()))) ((0:Z),h,())).bind λa=>match a with
 |.inl _=>(Y ((0:Z),()))
 |.inr b=>Y b))
 |.inr b=>Y b))
def zC:dx->ahX:=λ(b,e,_)=>(loop (σ:=eo) (ρ:=ee) (λ(a,_)=>bif br (a<((b.length:X):Z)) then(bB (α:=bt⊕dQ) (bB (α:=en) ((ao b a).bind λg=>bw (br (g.1<=e)==bp) ((ao b a).bind λh=>Y (br (e<h.2.1),())) (Y (bq,()))) λ(f,_)=>bw f (Y (.inr (.inr (.inr (a,()))))) (Y (.inl ()))) λc=>match c with
 |.inl _=>(Y (.inl (bK.wrap (a+(1:Z)),())))
 |.inr d=>Y d) else Y (.inr (.inl ()))) ((0:Z),())).bind λc=>match c with
 |.inl _=>(Y ((-1:Z),()))
 |.inr d=>Y d
def wX:dk->ahX:=λ(f,c,_)=>(uF (f,())).bind λ(o,_)=>(bif o !=(0:Z) then Y (o,()) else((loop (σ:=ej) (ρ:=dV) (λ(k,h,_)=>bif br (h<((c.length:X):Z)) then(bB (α:=eo⊕dE) (bB (α:=bt⊕(eo⊕dE)) ((ao c h).bind λJ=>bw ((J.1 !=k)==bq) ((ao c h).bind λK=>bw (br (K.2.1<=k)==bq) ((ao c h).bind λL=>bw (br (L.2.1>(((f.1).length:X):Z))) (Y (.inr (.inr (.inr (.inr ((211:Z),())))))) (Y (.inl ()))) (Y (.inr (.inr (.inr (.inr ((211:Z),()))))))) (Y (.inr (.inr (.inr (.inr ((211:Z),()))))))) λa=>match a with
 |.inl _=>((ao c h).bind λM=>Y (.inl (M.2.1,())))
 |.inr b=>Y b) λa=>match a with
 |.inl (q,_)=>(Y (.inl (q,bK.wrap (h+(1:Z)),())))
 |.inr b=>Y b) else Y (.inr (.inl (k,())))) ((0:Z),(0:Z),())).bind λa=>match a with
 |.inl (r,_)=>(bif r !=(((f.1).length:X):Z) then Y ((211:Z),()) else((loop (σ:=eo) (ρ:=ee) (λ(e,_)=>bif br (e<((c.length:X):Z)) then(bB (α:=bt⊕dQ) ((ao c e).bind λd=>(ao c e).bind λi=>(ao c e).bind λj=>bB (α:=bt⊕dI) ((zk (d.2.2.1,())).bind λ(s,_)=>bif (!s)==bq then bif br ((((d.2.2.1).length:X):Z)<bK.wrap (i.2.1-j.1))==bq then(ao d.2.2.1 (0:Z)).bind λx=>(ao c e).bind λy=>bif (x !=y.1)==bq then(ao d.2.2.1 (bK.wrap (bK.wrap (i.2.1-j.1)-(1:Z)))).bind λz=>(ao c e).bind λA=>bif (z !=bK.wrap (A.2.1-(1:Z)))==bq then(ao d.2.2.1 (bK.wrap ((((d.2.2.1).length:X):Z)-(1:Z)))).bind λB=>bif br (B>=(((f.1).length:X):Z)) then Y (.inr (.inr (.inr (.inr ((211:Z),()))))) else
 Y (.inl ()) else Y (.inr (.inr (.inr (.inr ((211:Z),()))))) else Y (.inr (.inr (.inr (.inr ((211:Z),()))))) else Y (.inr (.inr (.inr (.inr ((211:Z),()))))) else Y (.inr (.inr (.inr (.inr ((211:Z),())))))) λa=>match a with
 |.inl _=>(bB (α:=eo) (bw (br ((((d.2.2.1).length:X):Z)>bK.wrap (i.2.1-j.1))) ((ao d.2.2.1 (bK.wrap (i.2.1-j.1))).bind λC=>(zC (c,C,())).bind λ(t,_)=>Y (t,())) (Y ((-1:Z),()))) λ(n,_)=>(ao c e).bind λD=>bif D.2.2.2.1 !=n then Y (.inr (.inr (.inr ((211:Z),())))) else((loop (σ:=eo) (ρ:=dA) (λ(l,_)=>bw (br (l<(((d.2.2.1).length:X):Z))) ((ao c n).bind λE=>(ao d.2.2.1 l).bind λF=>(sv (E.2.2.1,F,())).bind λ(u,_)=>bw (!u) (Y (.inr (.inr (.inr (.inr (.inr ((211:Z),()))))))) (Y (.inl (bK.wrap (l+(1:Z)),())))) (Y (.inr (.inl ())))) (bK.wrap (i.2.1-j.1),())).bind λa=>match a with
 |.inl _=>(Y (.inl ()))
 |.inr b=>Y b))
 |.inr b=>Y b) λa=>match a with
 |.inl _=>(Y (.inl (bK.wrap (e+(1:Z)),())))
 |.inr b=>Y b) else Y (.inr (.inl ()))) ((0:Z),())).bind λa=>match a with
 |.inl _=>((loop (σ:=eo) (ρ:=ee) (λ(g,_)=>bif br (g<(((f.1).length:X):Z)) then((loop (σ:=eo) (ρ:=dI) (λ(m,_)=>(ao f.1 g).bind λG=>bif br (m<((G.length:X):Z)) then(bB (α:=bt⊕dv) ((ao f.1 g).bind λH=>(ao H m).bind λp=>bw (br (p>g)==bp) ((zC (c,g,())).bind λ(v,_)=>(ao c v).bind λI=>(sv (I.2.2.1,p,())).bind λ(w,_)=>bw (!w) (Y (.inr (.inr (.inr (.inr (.inr ((211:Z),()))))))) (Y (.inl ()))) (Y (.inl ()))) λa=>match a with
 |.inl _=>(Y (.inl (bK.wrap (m+(1:Z)),())))
 |.inr b=>Y b) else Y (.inr (.inl ()))) ((0:Z),())).bind λa=>match a with
 |.inl _=>(Y (.inl (bK.wrap (g+(1:Z)),())))
 |.inr b=>Y b) else Y (.inr (.inl ()))) ((0:Z),())).bind λa=>match a with
 |.inl _=>(Y ((0:Z),()))
 |.inr b=>Y b)
 |.inr b=>Y b))
 |.inr b=>Y b))
def CW:ea->ahW:=λ(b,c,_)=>(bif ((b.length:X):Z)!=c then Y (bq,()) else((fY c c).bind λk=>(loop (σ:=dZ) (ρ:=ed) (λ(a,g,_)=>bif br (a<c) then(bB (α:=ef⊕dC) (bB (α:=ef⊕(ef⊕dC)) ((ao b a).bind λo=>bw (br (o<(0:Z))==bq) ((ao b a).bind λp=>bw (br (p>=c)==bq) ((ao b a).bind λq=>(bj g.length q).bind λj=>(a9 g j λi=>Y i).bind λm=>bw m (Y (.inr (.inr (.inr (.inr (bq,())))))) (Y (.inl (g,())))) (Y (.inr (.inr (.inr (.inr (bq,()))))))) (Y (.inr (.inr (.inr (.inr (bq,()))))))) λd=>match d with
 |.inl (f,_)=>((ao b a).bind λn=>(bj f.length n).bind λh=>(a9 f h λ_=>Y (f.set h bp)).bind λr=>Y (.inl (r,())))
 |.inr e=>Y e) λd=>match d with
 |.inl (l,_)=>(Y (.inl (bK.wrap (a+(1:Z)),l,())))
 |.inr e=>Y e) else Y (.inr (.inl ()))) ((0:Z),bJ k bq,())).bind λd=>match d with
 |.inl _=>(Y (bp,()))
 |.inr e=>Y e))
def q3:dG->bv dN:=λ(a,b,_)=>(uF (a,())).bind λ(c,_)=>(bw (c !=(0:Z)) (Y (([],()),c,())) (bw (((b.length:X):Z)!=(((a.1).length:X):Z)) (Y (([],()),(2:Z),())) ((CW (b,(((a.1).length:X):Z),())).bind λ(aJ,_)=>bw (!aJ) (Y (([],()),(90:Z),())) ((Dk (a,b,())).bind λ(d,e,_)=>Y (d,e,())))))
section
open Go
def A4 (c:ahZ->es) (a:ahZ):bv bA:=bif b2 a.length 1000000 then(c a).bind λb=>bif b2 b.length 1000000 then Y (br ((aiQ b).length<a.length)) else bo else bo
end
def B6:dN->ahW:=λ(b,a,_)=>(bw (br (a>=(0:Z))==bp) (Y (br (a<(((b.1).length:X):Z)),())) (Y (bq,())))
def wO:eo->ahX:=λ(a,_)=>bB (α:=ej) (bw (br (a>=(65536:Z))) ((eJ cc a (16:Z)).bind λg=>Y (g,(16:Z),())) (Y (a,(0:Z),()))) λ(b,c,_)=>bB (α:=ej) (bw (br (b>=(256:Z))) ((eJ cc b (8:Z)).bind λh=>Y (h,bK.wrap (c+(8:Z)),())) (Y (b,c,()))) λ(f,e,_)=>(qk Ed (alH.wrap f)).bind λd=>Y (bK.wrap (e+bK.wrap d),())
def L2:eo->ahX:=λ(a,_)=>bB (α:=ej) (bw (br (a>=(4294967296:Z))) ((eJ bC a (32:Z)).bind λi=>Y (i,(32:Z),())) (Y (a,(0:Z),()))) λ(b,d,_)=>bB (α:=ej) (bw (br (b>=(65536:Z))) ((eJ bC b (16:Z)).bind λj=>Y (j,bK.wrap (d+(16:Z)),())) (Y (b,d,()))) λ(c,e,_)=>bB (α:=ej) (bw (br (c>=(256:Z))) ((eJ bC c (8:Z)).bind λk=>Y (k,bK.wrap (e+(8:Z)),())) (Y (c,e,()))) λ(h,g,_)=>(qk Ed (alH.wrap h)).bind λf=>Y (bK.wrap (g+bK.wrap f),())
def Cx:eo->ahX:=λ(b,_)=>(L2 (b,())).bind λ(a,_)=>Y (a,())
def CO:(ahZ×Z×Z×bt)->bv eh:=λ(k,f,j,_)=>(loop (σ:=eb) (ρ:=eh) (λ(d,g,_)=>bif br (d<j) then(loop (σ:=eb) (ρ:=eh) (λ(a,c,_)=>bB (α:=eh⊕dJ) (bw (br (a>f)==bp) ((bj c.length a).bind λu=>(a9 c u λq=>Y q).bind λy=>(bj c.length (bK.wrap (a-(1:Z)))).bind λr=>(a9 c r λn=>Y n).bind λz=>(um (y,z,())).bind λ(x,_)=>bw x (Y (.inl (c,()))) (Y (.inr (.inr (c,()))))) (Y (.inr (.inr (c,()))))) λv=>match v with
 |.inl (b,_)=>((bj b.length (bK.wrap (a-(1:Z)))).bind λs=>(a9 b s λo=>Y o).bind λA=>(bj b.length a).bind λt=>(a9 b t λp=>Y p).bind λB=>(bj b.length a).bind λh=>(a9 b h λ_=>Y (b.set h A)).bind λe=>(bj e.length (bK.wrap (a-(1:Z)))).bind λi=>(a9 e i λ_=>Y (e.set i B)).bind λC=>Y (.inl (bK.wrap (a-(1:Z)),C,())))
 |.inr w=>Y w) (d,g,())).bind λ(l,_)=>Y (.inl (bK.wrap (d+(1:Z)),l,())) else Y (.inr (g,()))) (bK.wrap (f+(1:Z)),k,())).bind λ(m,_)=>Y (m,())
def CR:(ahZ×Z×Z×Z×bt)->bv eh:=λ(e,c,d,g,_)=>(loop (σ:=(Z×Z×Z×bA×bA×ahZ×bt)) (ρ:=eh) (λ(a,b,_,_,_,f,_)=>bw (br (bK.wrap (b-a)<=(12:Z))) ((CO (f,a,b,())).bind λ(h,_)=>Y (.inr (h,()))) bo) (c,d,g,bp,bp,e,())).bind Y
def zh:eh->bv eh:=λ(a,_)=>(Cx (bC.wrap ((a.length:X):Z),())).bind λ(c,_)=>(CR (a,(0:Z),((a.length:X):Z),c,())).bind λ(b,_)=>Y (b,())
def B5:ahZ×bt->ahW:=λa=>(A4 (λc=>(zh (c,())).map λd=>d.1) a.1).map λb=>(b,())
def GJ:(Z×bv dW×bt)->ahW:=λ(b,a,_)=>a.bind λc=>(B6 (c,b,())).bind λ(aJ,_)=>Y ((!aJ),())
def GW:du->ahX:=λ(b,c,_)=>(loop (σ:=eo) (ρ:=ee) (λ(a,_)=>bw (br (a<((b.length:X):Z))) ((ao b a).bind λg=>(GJ (g,c.1,())).bind λ(f,_)=>bw f (Y (.inr (.inr (a,())))) (Y (.inl (bK.wrap (a+(1:Z)),())))) (Y (.inr (.inl ())))) ((0:Z),())).bind λd=>match d with
 |.inl _=>(Y ((-1:Z),()))
 |.inr e=>Y e
def CJ:du->ahW:=λ(c,a,_)=>(GW (c,(a.1,()),())).bind λ(b,_)=>Y (br (b>=(0:Z)),())
def B1:dG->ahX:=λ(a,b,_)=>(yY (a,())).bind λ(c,_)=>(bw (c !=(0:Z)) (Y (c,())) (bw (((b.length:X):Z)!=(((a.1).length:X):Z)) (Y ((2:Z),())) ((CJ (b,(Y a,()),())).bind λ(aJ,_)=>bw (aJ==bq) ((B5 (b,())).bind λ(d,_)=>bw d (Y ((90:Z),())) (Y ((0:Z),()))) (Y ((90:Z),())))))
def y0:eo->bv dU:=λ(a,_)=>(fY a a).bind λe=>(loop (σ:=dS) (ρ:=dU) (λ(c,b,_)=>bw (br (c<((((bJ e []):eu).length:X):Z))) ((fY a a).bind λf=>(bj b.length c).bind λd=>(a9 b d λ_=>Y (b.set d (bJ f bq))).bind λh=>Y (.inl (bK.wrap (c+(1:Z)),h,()))) (Y (.inr (b,())))) ((0:Z),bJ e [],())).bind λ(g,_)=>Y (g,())
def y3:(eu×Z×Z×bt)->bv dU:=λ(a,d,e,_)=>(bw (d !=e) ((bj a.length d).bind λb=>(bj a.length e).bind λc=>((a9 a b λm=>Y m).bind λn=>bj n.length e).bind λi=>(a9 a b λg=>(a9 g i λ_=>Y (g.set i bp)).map λo=>a.set b o).bind λf=>((a9 f c λk=>Y k).bind λl=>bj l.length d).bind λj=>(a9 f c λh=>(a9 h j λ_=>Y (h.set j bp)).map λp=>f.set c p).bind λq=>Y (q,())) (Y (a,())))
def B2:(eu×Z×bt)->bv eh:=λ(f,g,_)=>(ao f g).bind λc=>(loop (σ:=eb) (ρ:=eh) (λ(a,b,_)=>bw (br (a<((c.length:X):Z))) (bB (α:=eh) ((ao c a).bind λh=>bw h ((cD (b.length+([a]).length)).bind λ_=>Y ((b++[a]),())) (Y (b,()))) λ(d,_)=>Y (.inl (bK.wrap (a+(1:Z)),d,()))) (Y (.inr (b,())))) ((0:Z),[],())).bind λ(e,_)=>Y (e,())
def y2:dU->bv dR:=λ(b,_)=>(fY ((b.length:X):Z) ((b.length:X):Z)).bind λg=>(loop (σ:=dr) (ρ:=dt) (λ(c,e,a,_)=>bw (br (c<((b.length:X):Z))) ((B2 (b,c,())).bind λ(h,_)=>(bj (a.1).length c).bind λd=>((a9 a.1 d λ_=>Y ((a.1).set d h)).map λi=>(i,a.2)).bind λj=>Y (.inl (bK.wrap (c+(1:Z)),e,j,()))) (Y (.inr (e,a,())))) ((0:Z),([],()),(bJ g [],()),())).bind λ(_,f,_)=>Y (f,())
def B4:dG->bv dR:=λ(k,a,_)=>(y0 (((a.length:X):Z),())).bind λ(o,_)=>(loop (σ:=dw) (ρ:=dy) (λ(b,i,j,_)=>bif br (b<((a.length:X):Z)) then(ao a b).bind λv=>((Y (0)).bind λg=>(gv b).bind λh=>(g9 g h a.length).map λ_=>(g,h)).bind λc=>(loop (σ:=dw) (ρ:=dy) (λ(d,e,f,_)=>bif br (d<((((a.take c.2).drop c.1).length:X):Z)) then bB (α:=dy) ((ao ((a.take c.2).drop c.1) d).bind λu=>(wH (k,v,u,())).bind λ(m,_)=>bw m ((y3 (f,b,d,())).bind λ(l,_)=>Y (e,l,())) (Y (e,f,()))) λ(p,q,_)=>
 Y (.inl (bK.wrap (d+(1:Z)),p,q,())) else Y (.inr (e,f,()))) ((0:Z),i,j,())).bind λ(r,s,_)=>Y (.inl (bK.wrap (b+(1:Z)),r,s,())) else Y (.inr (i,j,()))) ((0:Z),([],()),o,())).bind λ(_,t,_)=>(y2 (t,())).bind λ(n,_)=>Y (n,())
def y1:dG->bv dN:=λ(a,b,_)=>(B1 (a,b,())).bind λ(c,_)=>(bw (c !=(0:Z)) (Y (([],()),c,())) ((B4 (a,b,())).bind λ(aJ,_)=>Y (aJ,(0:Z),())))
def uk:ej->ahX:=λ(a,b,_)=>(sn (a,())).bind λ(c,_)=>(sn (b,())).bind λ(aJ,_)=>(bw c (bw aJ (Y ((0:Z),())) (Y ((-1:Z),()))) (bw aJ (Y ((1:Z),())) (bw (br (a<b)) (Y ((-1:Z),())) (bw (br (a>b)) (Y ((1:Z),())) (Y ((0:Z),()))))))
def BQ:eh->ahX:=λ(b,_)=>(loop (σ:=eo) (ρ:=ee) (λ(a,_)=>bw (br (a<((b.length:X):Z))) ((ao b a).bind λc=>bw (c !=(0:Z)) (Y (.inr (.inr (c,())))) (Y (.inl (bK.wrap (a+(1:Z)),())))) (Y (.inr (.inl ())))) ((0:Z),())).bind λd=>match d with
 |.inl _=>(Y ((0:Z),()))
 |.inr e=>Y e
abbrev bf:Type:=ahZ
abbrev hm:Type:=(bf×bt)
abbrev eW:Type:=(bA×hm)
abbrev cJ:Type:=eo
abbrev fL:Type:=(bA×(eW×cJ))
abbrev Sv:Type:=(bf×(bf×hm))
abbrev kS:Type:=(bm (Z×(Z×cJ)))
abbrev e0:Type:=(Z×(Z×Sv))
abbrev hu:Type:=en
abbrev qO:Type:=(Z×((bm bf×bt)×(bm (bv (bm (Z×fL)×X))×bt)))
abbrev jC:Type:=(bm (Z×(Z×(bf×cJ))))
abbrev he:Type:=(fL×bt)
abbrev gK:Type:=(eW×bt)
abbrev ly:Type:=(fL×fL×bt)
abbrev iI:Type:=(Z×bf×bt)
abbrev g6:Type:=ahV
abbrev pJ:Type:=(bt⊕hu)
abbrev jD:Type:=(kS×bt)
abbrev Sw:Type:=(kS×Z×Z×Z×bt×bt)
abbrev n5:Type:=(Z×kS×bt)
abbrev jT:Type:=(bf×bf×bt)
abbrev lz:Type:=(eW×eW×bt)
abbrev nl:Type:=(bt⊕cJ)
abbrev nm:Type:=(bf×Z×bt)
abbrev np:Type:=ej
abbrev j7:Type:=(jC×bm g6×bt)
abbrev yz:Type:=(Z×Z×kS×bt)
abbrev wh:Type:=(bA×(eW×(Z×hu)))
abbrev pK:Type:=(Z×Z×bf×bt)
abbrev pL:Type:=(eW×Z×bt)
abbrev nq:Type:=(e0×bt)
def mn:hm->bv hm:=λ(c,_)=>(loop (σ:=cJ) (ρ:=cJ) (λ(a,_)=>bB (α:=bt⊕(cJ⊕cJ)) (bw (br (a>0)==bp) ((ao c (ay (a-1))).bind λj=>bw (j==0) (Y (.inl ())) (Y (.inr (.inr (a,()))))) (Y (.inr (.inr (a,()))))) λh=>match h with
 |.inl _=>(Y (.inl (ay (a-1),())))
 |.inr i=>Y i) (al c,())).bind λ(f,_)=>(loop (σ:=iI) (ρ:=hm) (λ(b,d,_)=>bw (br (b<f)) ((ao c b).bind λe=>(cD (d.length+([e]).length)).bind λ_=>Y (.inl (aP b,(d++[e]),()))) (Y (.inr (d,())))) (0,[],())).bind λ(g,_)=>Y (g,())
def l5:(bA×bf×bt)->bv gK:=λ(c,b,_)=>(mn (b,())).bind λ(a,_)=>(bw (c==bp) (Y ((br (al a>0),(a,())),())) (Y ((bq,(a,())),())))
def sx:cJ->bv gK:=λ(a,_)=>bB (α:=(Z×eW×bt)) (bw (br (a<0)) (Y (aL (aL (ay (0-aP a))+1),(bq,([],())),())) (Y (aL a,(bq,([],())),()))) λ(b,_,_)=>(eJ bC b 32).bind λd=>(l5 (br (a<0),[dc b,dc d],())).bind λ(c,_)=>Y (c,())
def pW:gK->bv gK:=λ(a,_)=>(l5 (a.1,a.2.1,())).bind λ(b,_)=>Y (b,())
def uD:bt->bv he:=λ_=>Y ((bp,((bq,([],())),((0:Z),()))),())
def wP:cJ->bv cJ:=λ(a,_)=>(bw (a==0) (Y (32,())) ((eJ cc (dc (ey cc a (dc (0-a))*125613361)) 27).bind λb=>(ao pQ b).bind λc=>Y (ay c,())))
def qZ:gK->bv cJ:=λ(c,_)=>(mn (c.2.1,())).bind λ(b,_)=>(loop (σ:=cJ) (ρ:=nl) (λ(a,_)=>bw (br (a<al b)) ((ao b a).bind λg=>bw (g !=0) ((ao b a).bind λh=>(wP (h,())).bind λ(f,_)=>Y (.inr (.inr (ay (ay (32*a)+f),())))) (Y (.inl (aP a,())))) (Y (.inr (.inl ())))) (0,())).bind λd=>match d with
 |.inl _=>(Y (0,()))
 |.inr e=>Y e
def qY:gK->bv gK:=λ(a,_)=>(l5 (bq,a.2.1,())).bind λ(b,_)=>Y (b,())
def wT:nm->bv hm:=λ(f,g,_)=>(ki bK g 32).bind λi=>(fY i i).bind λj=>(loop (σ:=pK) (ρ:=iI) (λ(a,b,c,_)=>bw (br (b<al f)) ((ao f b).bind λl=>(iC g 32).bind λm=>(h2 bC (aL l) m).bind λd=>(cD (c.length+([dc (fN bC a d)]).length)).bind λ_=>(eJ bC (fN bC a d) 32).bind λk=>Y (.inl (k,aP b,(c++[dc (fN bC a d)]),()))) (Y (.inr (a,c,())))) (0,0,bJ j (0:Z),())).bind λ(e,h,_)=>(cD (h.length+([dc e]).length)).bind λ_=>Y ((h++[dc e]),())
def wU:nm->bv (bf×bA×bt):=λ(b,d,_)=>(loop (σ:=ei) (ρ:=hu) (λ(e,c,_)=>bB (α:=bt⊕(ei⊕hu)) ((ki bK d 32).bind λw=>bw (br (c<w)==bp) (bw (br (c<al b)) (Y (.inl ())) (Y (.inr (.inr (e,()))))) (Y (.inr (.inr (e,()))))) λt=>match t with
 |.inl _=>(bB (α:=hu) (bw (e==bq) ((ao b c).bind λx=>Y ((x !=0),())) (Y (bp,()))) λ(m,_)=>Y (.inl (m,aP c,())))
 |.inr u=>Y u) (bq,0,())).bind λ(n,_)=>(iC d 32).bind λj=>(ki bK d 32).bind λy=>(loop (σ:=(bA×Z×bf×bt)) (ρ:=(bA×bf×bt)) (λ(f,a,g,_)=>bif br (a<al b) then bB (α:=(bA×bf×bt)) ((ao b a).bind λk=>bB (α:=iI) (bw (br (aP a<al b)) ((ao b (aP a)).bind λz=>(h2 bC (aL z) 32).bind λA=>Y (fN bC (aL k) A,g,())) (Y (aL k,g,()))) λ(v,h,_)=>bB (α:=(bA×bf×bt)) ((ki bK d 32).bind λB=>bw ((a==B)==bp) ((ao b a).bind λC=>(h2 cc 1 j).bind λD=>bw (ey cc C (dc (D-1))!=0) (Y (bp,h,())) (Y (f,h,()))) (Y (f,h,()))) λ(o,i,_)=>(eJ bC v j).bind λl=>(cD (i.length+([dc l]).length)).bind λ_=>Y (o,(i++[dc l]),())) λ(p,r,_)=>Y (.inl (p,aP a,r,())) else
 Y (.inr (f,g,()))) (n,y,[],())).bind λ(q,s,_)=>Y (s,q,())
def zn:gK->bv gK:=λ(a,_)=>(l5 ((!a.1),a.2.1,())).bind λ(b,_)=>Y (b,())
def C2:jT->bv hm:=λ(b,c,_)=>(loop (σ:=pK) (ρ:=iI) (λ(e,a,f,_)=>bw (br (a<(if(al c)>al b then al c else al b))) (bB (α:=iI) (bB (α:=iI) (bw (br (a<al b)) ((ao b a).bind λo=>Y (aL (e+aL o),f,())) (Y (e,f,()))) λ(h,k,_)=>bB (α:=iI) (bw (br (a<al c)) ((ao c a).bind λp=>Y (aL (h+aL p),k,())) (Y (h,k,()))) λ(d,i,_)=>(cD (i.length+([dc d]).length)).bind λ_=>(eJ bC d 32).bind λn=>Y (n,(i++[dc d]),())) λ(l,m,_)=>Y (.inl (l,aP a,m,()))) (Y (.inr (e,f,())))) (0,0,[],())).bind λ(g,j,_)=>(cD (j.length+([dc g]).length)).bind λ_=>Y ((j++[dc g]),())
def zo:jT->bv cJ:=λ(b,c,_)=>(bif al b !=al c then bw (br (al b<al c)) (Y ((-1:Z),())) (Y (1,())) else((loop (σ:=cJ) (ρ:=nl) (λ(a,_)=>bw (br (a>=0)) ((ao b a).bind λf=>(ao c a).bind λg=>bw (f !=g) ((ao b a).bind λh=>(ao c a).bind λi=>bw (br (h<i)) (Y (.inr (.inr ((-1:Z),())))) (Y (.inr (.inr (1,()))))) (Y (.inl (ay (a-1),())))) (Y (.inr (.inl ())))) (ay (al b-1),())).bind λd=>match d with
 |.inl _=>(Y (0,()))
 |.inr e=>Y e))
def zp:jT->bv hm:=λ(d,e,_)=>(loop (σ:=pK) (ρ:=hm) (λ(f,a,b,_)=>bw (br (a<al d)) (bB (α:=iI) ((ao d a).bind λh=>bB (α:=iI) (bw (br (a<al e)) ((ao e a).bind λm=>Y (aL (aL (aL h-f)-aL m),b,())) (Y (aL (aL h-f),b,()))) λ(c,g,_)=>(cD (g.length+([dc c]).length)).bind λ_=>(eJ bC c 63).bind λl=>Y (l,(g++[dc c]),())) λ(i,j,_)=>Y (.inl (i,aP a,j,()))) (Y (.inr (b,())))) (0,0,[],())).bind λ(k,_)=>Y (k,())
def sw:lz->bv gK:=λ(a,c,_)=>(mn (a.2.1,())).bind λ(b,_)=>(mn (c.2.1,())).bind λ(aJ,_)=>(bw (a.1==c.1) ((C2 (b,aJ,())).bind λ(f,_)=>(l5 (a.1,f,())).bind λ(g,_)=>Y (g,())) ((zo (b,aJ,())).bind λ(h,_)=>bw (br (h>=0)) ((zp (b,aJ,())).bind λ(i,_)=>(l5 (a.1,i,())).bind λ(j,_)=>Y (j,())) ((zp (aJ,b,())).bind λ(d,_)=>(l5 (c.1,d,())).bind λ(e,_)=>Y (e,()))))
def wS:lz->bv gK:=λ(a,b,_)=>(zn (b,())).bind λ(c,_)=>(sw (a,c,())).bind λ(aJ,_)=>Y (aJ,())
def n9:pL->bv gK:=λ(f,b,_)=>(pW (f,())).bind λ(a,_)=>(bw (br (b>=0)) ((wT (a.2.1,b,())).bind λ(aJ,_)=>(l5 (a.1,aJ,())).bind λ(j,_)=>Y (j,())) ((wU (a.2.1,ay (0-b),())).bind λ(k,l,_)=>(l5 (a.1,k,())).bind λ(d,_)=>bB (α:=lz) (bB (α:=(bA×eW×eW×bt)) (bw (a.1==bp) (Y (l,(bq,([],())),d,())) (Y (bq,(bq,([],())),d,()))) λ(m,e,c,_)=>bw m ((sx (1,())).bind λ(h,_)=>(wS (c,h,())).bind λ(i,_)=>Y (e,i,())) (Y (e,c,()))) λ(_,g,_)=>Y (g,())))
def wW:pL->bv gK:=λ(d,f,_)=>(loop (σ:=(Z×eW×eW×bt)) (ρ:=(Z×eW×eW×bt)) (λ(a,b,c,_)=>bw (br (a>1048576)) ((n9 (b,(-1048576:Z),())).bind λ(i,_)=>Y (.inl (ay (a-1048576),i,c,()))) (Y (.inr (a,b,c,())))) (f,d,(bq,([],())),())).bind λ(g,e,_,_)=>(n9 (e,ay (0-g),())).bind λ(h,_)=>Y (h,())
def uC:gK->bv cJ:=λ(b,_)=>(mn (b.2.1,())).bind λ(a,_)=>(bw (al a==0) (Y (0,())) ((ao a (ay (al a-1))).bind λc=>(wO (c,())).bind λ(aJ,_)=>Y (ay (ay (32*ay (al a-1))+aJ),())))
def o0:pL->bv he:=λ(e,a,_)=>(pW (e,())).bind λ(c,_)=>(bif al c.2.1==0 then Y ((bq,((bq,([],())),((0:Z),()))),()) else bif br (a>65536) then(uD ()).bind λ(aJ,_)=>Y (aJ,()) else((qZ (c,())).bind λ(b,_)=>(qY (c,())).bind λ(k,_)=>(wW (k,b,())).bind λ(d,_)=>bB (α:=(fL×eW×bt)⊕he) (bB (α:=(bA×fL×eW×bt)) (bw (br (ay (a+b)<(-65536:Z))==bq) ((uC (d,())).bind λ(l,_)=>Y (br (ay (ay (a+b)+l)>65536),(bq,((bq,([],())),((0:Z),()))),d,())) (Y (bp,(bq,((bq,([],())),((0:Z),()))),d,()))) λ(n,m,f,_)=>bw n ((uD ()).bind λ(j,_)=>Y (.inr (j,()))) (Y (.inl (m,f,())))) λh=>match h with
 |.inl (_,g,_)=>(Y ((bq,((e.1,g.2),(ay (a+b),()))),()))
 |.inr i=>Y i))
def wV:cJ->bv he:=λ(a,_)=>(sx (a,())).bind λ(b,_)=>(o0 (b,0,())).bind λ(c,_)=>Y (c,())
def mq:he->bv he:=λ(a,_)=>(bw a.1 ((uD ()).bind λ(b,_)=>Y (b,())) ((o0 (a.2.1,a.2.2.1,())).bind λ(c,_)=>Y (c,())))
def mU:gK->bv cJ:=λ(b,_)=>(pW (b,())).bind λ(a,_)=>(bw (al a.2.1==0) (Y (0,())) (bw a.1 (Y ((-1:Z),())) (Y (1,()))))
def q1:ei->bv cJ:=λ(b,a,_)=>(bw b (Y (fN bC a 9223372036854775808,())) (Y (a,())))
def zt:ei->bv cJ:=λ(a,b,_)=>bB (α:=bt⊕cJ) (bB (α:=hu) (bw ((b==3)==bq) (bw ((b==1)==bp) (bw ((!a)==bq) (bw ((b==2)==bp) (Y (a,())) (Y (bq,()))) (Y (bp,()))) (bw ((b==2)==bp) (Y (a,())) (Y (bq,())))) (Y (bp,()))) λ(f,_)=>bw f ((q1 (a,9218868437227405311,())).bind λ(aJ,_)=>Y (.inr (aJ,()))) (Y (.inl ()))) λc=>match c with
 |.inl _=>((q1 (a,9218868437227405312,())).bind λ(e,_)=>Y (e,()))
 |.inr d=>Y d
def zm:pL->bv hu:=λ(a,b,_)=>(mn (a.2.1,())).bind λ(c,_)=>(wU (c,b,())).bind λ(_,d,_)=>Y (d,())
def Db:(bA×Z×bA×Z×bt)->bv hu:=λ(c,b,d,a,_)=>(bw (a==1) (Y (c,())) (bw (a==2) (Y ((!c),())) (bw (a==3) (Y (bq,())) (bw (br (b>0)==bq) (bw ((b==0)==bp) (Y (d,())) (Y (bq,()))) (Y (bp,()))))))
def C7:(bA×eW×Z×bA×Z×bt)->bv gK:=λ(q,b,a,h,p,_)=>(wW (b,a,())).bind λ(l,_)=>(zm (b,a,())).bind λ(D,_)=>bB (α:=lz⊕gK) (bB (α:=(bA×eW×eW×bt)) (bw ((!D)==bp) (Y ((!h),(bq,([],())),l,())) (Y (bq,(bq,([],())),l,()))) λ(F,G,i,_)=>bw F (Y (.inr (i,()))) (Y (.inl (G,i,())))) λs=>match s with
 |.inl (g,f,_)=>(bB (α:=(Z×eW×eW×bt)) (bw (br (a>0)) ((wW (b,ay (a-1),())).bind λ(k,_)=>bB (α:=(bA×eW×eW×bt)) ((qZ (k,())).bind λ(v,_)=>bw ((v==0)==bp) ((mU (k,())).bind λ(w,_)=>Y ((w !=0),g,f,())) (Y (bq,g,f,()))) λ(E,e,c,_)=>bw E (bw (h==bq) ((zm (b,ay (a-1),())).bind λ(x,_)=>bw x (Y (1,e,c,())) (Y (0,e,c,()))) (Y (1,e,c,()))) (Y ((-1:Z),e,c,()))) (Y ((-1:Z),g,f,()))) λ(o,m,d,_)=>bB (α:=(bA×eW×eW×bt)) ((mU (d,())).bind λ(y,_)=>bw ((y !=0)==bp) ((qZ (d,())).bind λ(z,_)=>Y ((z==0),m,d,())) (Y (bq,m,d,()))) λ(r,n,j,_)=>bB (α:=lz) ((Db (q,o,r,p,())).bind λ(A,_)=>
  bw A ((sx (1,())).bind λ(B,_)=>(sw (j,B,())).bind λ(C,_)=>Y (n,C,())) (Y (n,j,()))) λ(_,t,_)=>Y (t,()))
 |.inr u=>Y u
def C0:gK->bv eg:=λ(f,_)=>(pW (f,())).bind λ(d,_)=>(bw (br (al d.2.1>2)) (Y (0,bq,())) ((loop (σ:=(Z×Z×eW×bt)) (ρ:=(Z×eW×bt)) (λ(e,b,a,_)=>bw (br (b<al a.2.1)) ((ao a.2.1 b).bind λh=>(h2 bC (aL h) (ay (32*b))).bind λi=>Y (.inl (fN bC e i,aP b,a,()))) (Y (.inr (e,a,())))) (0,0,d,())).bind λ(c,g,_)=>bw g.1 (bw (br (c>9223372036854775808)) (Y (0,bq,())) (Y (ay (ay (0-ay (aL (c-1)))-1),bp,()))) (bw (br (c>9223372036854775807)) (Y (0,bq,())) (Y (ay c,bp,())))))
def zu:(bA×eW×Z×bA×Z×bt)->bv cJ:=λ(c,e,a,i,f,_)=>(uC (e,())).bind λ(b,_)=>(bif br (ay (ay (a+b)-1)>=1024) then(zt (c,f,())).bind λ(p,_)=>Y (p,()) else(bB (α:=gK) (bw (br ((if(-1074:Z)>ay (ay (ay (a+b)-1)-52) then(-1074:Z) else ay (ay (ay (a+b)-1)-52))>=a)) ((C7 (c,e,ay ((if(-1074:Z)>ay (ay (ay (a+b)-1)-52) then(-1074:Z) else ay (ay (ay (a+b)-1)-52))-a),i,f,())).bind λ(q,_)=>Y (q,())) ((n9 (e,ay (a-(if(-1074:Z)>ay (ay (ay (a+b)-1)-52) then(-1074:Z) else ay (ay (ay (a+b)-1)-52))),())).bind λ(r,_)=>Y (r,()))) λ(j,_)=>(C0 (j,())).bind λ(g,_,_)=>bB (α:=np) (bif g==9007199254740992 then Y (aP (if(-1074:Z)>ay (ay (ay (a+b)-1)-52) then(-1074:Z) else ay (ay (ay (a+b)-1)-52)),4503599627370496,()) else
 Y ((if(-1074:Z)>ay (ay (ay (a+b)-1)-52) then(-1074:Z) else ay (ay (ay (a+b)-1)-52)),g,())) λ(h,d,_)=>bB (α:=bt⊕cJ) (bB (α:=hu) (bw (br (d>=4503599627370496)==bp) (Y (br (ay (h+53)>1024),())) (Y (bq,()))) λ(s,_)=>bw s ((zt (c,f,())).bind λ(m,_)=>Y (.inr (m,()))) (bw (br (d>=4503599627370496)) ((h2 bC (aL (ay (h+1075))) 52).bind λt=>(q1 (c,fN bC t (aL (ay (d-4503599627370496))),())).bind λ(n,_)=>Y (.inr (n,()))) (Y (.inl ())))) λk=>match k with
 |.inl _=>((q1 (c,aL d,())).bind λ(o,_)=>Y (o,()))
 |.inr l=>Y l))
def zr:(fL×Z×bt)->bv cJ:=λ(b,c,_)=>(mq (b,())).bind λ(a,_)=>(bw a.1 (Y (9221120237041090560,())) ((mU (a.2.1,())).bind λ(aJ,_)=>bw (aJ==0) (Y (0,())) ((qY (a.2.1,())).bind λ(d,_)=>(zu (a.2.1.1,d,a.2.2.1,bq,c,())).bind λ(e,_)=>Y (e,()))))
def Dc:np->bv cJ:=λ(b,a,_)=>(wV (b,())).bind λ(c,_)=>(zr (c,a,())).bind λ(aJ,_)=>Y (aJ,())
def wG:cJ->bv np:=λ(a,_)=>(eJ bC a 52).bind λb=>Y (ay (ey bC b 2047),ey bC a 4503599627370495,())
def ny:cJ->bv hu:=λ(a,_)=>(wG (a,())).bind λ(b,_,_)=>Y ((b !=2047),())
def iz:hm->bv hm:=λ(b,_)=>(loop (σ:=cJ) (ρ:=cJ) (λ(a,_)=>bB (α:=bt⊕(cJ⊕cJ)) (bw (br (a>0)==bp) ((ao b (ay (a-1))).bind λi=>bw (i==0) (Y (.inl ())) (Y (.inr (.inr (a,()))))) (Y (.inr (.inr (a,()))))) λg=>match g with
 |.inl _=>(Y (.inl (ay (a-1),())))
 |.inr h=>Y h) (al b,())).bind λ(f,_)=>((Y (0)).bind λc=>(gv f).bind λd=>(g9 c d b.length).map λ_=>(c,d)).bind λe=>Y (((b.take e.2).drop e.1),())
def l4:(bA×bf×bt)->bv gK:=λ(c,b,_)=>(iz (b,())).bind λ(a,_)=>(bw (al a==0) (Y ((bq,(([]:bf),())),())) (Y ((c,(a,())),())))
def uu:cJ->bv gK:=λ(a,_)=>bB (α:=(Z×eW×bt)) (bw (br (a<0)) (Y (aL (0-aL a),(bq,([],())),())) (Y (aL a,(bq,([],())),()))) λ(b,_,_)=>(eJ bC b 32).bind λd=>(l4 (br (a<0),[dc (ey bC b 4294967295),dc d],())).bind λ(c,_)=>Y (c,())
def BZ:cJ->bv hu:=λ(a,_)=>Y ((ey bC a 9223372036854775808 !=0),())
def uz:hm->bv hm:=λ(a,_)=>rz a.length (Y ([],())) ((cD (([]:bf).length+a.length)).bind λ_=>Y (([]++a),()))
def sq:gK->bv gK:=λ(a,_)=>(uz (a.2.1,())).bind λ(b,_)=>(l4 ((!a.1),b,())).bind λ(c,_)=>Y (c,())
def yV:bt->bv he:=λ_=>Y ((bp,((bq,([],())),((0:Z),()))),())
def Ca:gK->bv gK:=λ(a,_)=>(uz (a.2.1,())).bind λ(b,_)=>(l4 (a.1,b,())).bind λ(c,_)=>Y (c,())
def pU:gK->bv cJ:=λ(a,_)=>(iz (a.2.1,())).bind λ(b,_)=>(bw (al b==0) (Y (0,())) (bw a.1 (Y ((-1:Z),())) (Y (1,()))))
def y5:gK->bv cJ:=λ(b,_)=>(loop (σ:=cJ) (ρ:=nl) (λ(a,_)=>bw (br (a<al b.2.1)) ((ao b.2.1 a).bind λc=>bw (c !=0) ((wP (c,())).bind λ(aJ,_)=>Y (.inr (.inr (ay (ay (a*32)+aJ),())))) (Y (.inl (aP a,())))) (Y (.inr (.inl ())))) (0,())).bind λd=>match d with
 |.inl _=>(Y (0,()))
 |.inr e=>Y e
def y8:hm->bv cJ:=λ(a,_)=>(bw (al a==0) (Y (0,())) ((ao a (ay (al a-1))).bind λc=>(wO (c,())).bind λ(b,_)=>Y (ay (ay (ay (al a-1)*32)+b),())))
def sp:gK->bv cJ:=λ(a,_)=>(iz (a.2.1,())).bind λ(b,_)=>(y8 (b,())).bind λ(c,_)=>Y (c,())
def wL:nm->bv hm:=λ(b,e,_)=>(bw (al b==0) (Y ([],())) ((ki bK e 32).bind λc=>(iC e 32).bind λj=>(fY (aP (ay (c+al b))) (aP (ay (c+al b)))).bind λg=>(loop (σ:=iI) (ρ:=hm) (λ(a,d,_)=>bw (br (a<al b)) ((ao b a).bind λk=>(h2 bC (aL k) (aL j)).bind λf=>rd d (ay (c+a)) λl=>wr d (ay (c+a)) (fN cc l (dc (ey bC f 4294967295))) λn=>(eJ bC f 32).bind λm=>wr n (aP (ay (c+a))) (dc m) λo=>Y (.inl (aP a,o,()))) (Y (.inr (d,())))) (0,bJ g (0:Z),())).bind λ(h,_)=>(iz (h,())).bind λ(i,_)=>Y (i,())))
def GK:cJ->bv hu:=λ(a,_)=>Y ((a !=0),())
def GX:(bf×bt×bt)->bv cJ:=λ(b,_,_)=>(loop (σ:=cJ) (ρ:=nl) (λ(a,_)=>bw (br (a<al b)) ((ao b a).bind λf=>(GK (f,())).bind λ(e,_)=>bw e (Y (.inr (.inr (a,())))) (Y (.inl (aP a,())))) (Y (.inr (.inl ())))) (0,())).bind λc=>match c with
 |.inl _=>(Y ((-1:Z),()))
 |.inr d=>Y d
def zf:(bf×bt×bt)->bv hu:=λ(b,_,_)=>(GX (b,(),())).bind λ(a,_)=>Y (br (a>=0),())
def y7:nm->bv (bf×bA×bt):=λ(a,h,_)=>(ki bK h 32).bind λb=>(iC h 32).bind λj=>(bif br (b>=al a) then Y ([],br (al a>0),()) else bB (α:=hu) (((Y (0)).bind λe=>(gv b).bind λf=>(g9 e f a.length).map λ_=>(e,f)).bind λi=>(zf (((a.take i.2).drop i.1),(),())).bind λ(p,_)=>bw (p==bq) ((ao a b).bind λs=>(h2 cc 1 (aL j)).bind λt=>Y ((ey cc s (dc (t-1))!=0),())) (Y (bp,()))) λ(l,_)=>(fY (ay (al a-b)) (ay (al a-b))).bind λg=>(loop (σ:=iI) (ρ:=hm) (λ(c,d,_)=>bif br (c<al (bJ g (0:Z))) then bB (α:=hm) ((ao a (ay (b+c))).bind λk=>bB (α:=iI) (bw (br (aP (ay (b+c))<al a)) ((ao a (aP (ay (b+c)))).bind λu=>(h2 bC (aL u) 32).bind λv=>Y (fN bC (aL k) v,d,())) (Y (aL k,d,()))) λ(r,m,_)=>
 (eJ bC r (aL j)).bind λw=>wr m c (dc (ey bC w 4294967295)) λx=>Y (x,())) λ(n,_)=>Y (.inl (aP c,n,())) else Y (.inr (d,()))) (0,bJ g (0:Z),())).bind λ(o,_)=>(iz (o,())).bind λ(q,_)=>Y (q,l,()))
def wK:jT->bv hm:=λ(b,d,_)=>bB (α:=jT) (bw (br (al b<al d)) (Y (d,b,())) (Y (b,d,()))) λ(c,h,_)=>(fY 0 (aP (al c))).bind λn=>(loop (σ:=pK) (ρ:=iI) (λ(e,a,f,_)=>bw (br (a<al c)) (bB (α:=iI) ((ao c a).bind λl=>bB (α:=iI) (bw (br (a<al h)) ((ao h a).bind λq=>Y (aL (aL (aL l+e)+aL q),f,())) (Y (aL (aL l+e),f,()))) λ(g,j,_)=>(cD (j.length+([dc (ey bC g 4294967295)]).length)).bind λ_=>(eJ bC g 32).bind λr=>Y (r,(j++[dc (ey bC g 4294967295)]),())) λ(m,o,_)=>Y (.inl (m,aP a,o,()))) (Y (.inr (e,f,())))) (0,0,bJ n (0:Z),())).bind λ(i,k,_)=>(cD (k.length+([dc i]).length)).bind λ_=>(iz ((k++[dc i]),())).bind λ(p,_)=>Y (p,())
def qW:pL->bv pL:=λ(b,a,_)=>bB (α:=gK⊕pL) (bB (α:=(bA×eW×bt)) (bw (br (a<(-1048576:Z))==bq) (Y (br (a>1048576),(bq,([],())),())) (Y (bp,(bq,([],())),()))) λ(p,q,_)=>bw p (Y (.inr ((bq,(([]:bf),())),3,()))) (Y (.inl (q,())))) λh=>match h with
 |.inl (f,_)=>((iz (b.2.1,())).bind λ(c,_)=>bw (br (a>=0)) ((wL (c,a,())).bind λ(m,_)=>(l4 (b.1,m,())).bind λ(n,_)=>Y (n,0,())) ((y7 (c,ay (0-a),())).bind λ(d,j,_)=>bB (α:=(bf×eW×bt)) (bB (α:=(bA×eW×bt)) (bw (b.1==bp) (Y (j,f,())) (Y (bq,f,()))) λ(o,e,_)=>bw o ((wK (d,[1],())).bind λ(k,_)=>Y (k,e,())) (Y (d,e,()))) λ(g,_,_)=>(l4 (b.1,g,())).bind λ(l,_)=>Y (l,0,())))
 |.inr i=>Y i
def yW:pL->bv gK:=λ(d,f,_)=>(loop (σ:=(Z×eW×eW×bt)) (ρ:=(Z×eW×eW×bt)) (λ(a,b,c,_)=>bw (br (a>1048576)) ((qW (b,(-1048576:Z),())).bind λ(i,_,_)=>Y (.inl (ay (a-1048576),i,c,()))) (Y (.inr (a,b,c,())))) (f,d,(bq,([],())),())).bind λ(g,e,_,_)=>(qW (e,ay (0-g),())).bind λ(h,_,_)=>Y (h,())
def pT:he->bv (fL×bA×bt):=λ(a,_)=>(bif a.1 then(yV ()).bind λ(j,_)=>Y (j,bq,()) else(Ca (a.2.1,())).bind λ(b,_)=>(pU (b,())).bind λ(aJ,_)=>bif aJ==0 then Y ((bq,((bq,([],())),((0:Z),()))),bp,()) else((y5 (b,())).bind λ(c,_)=>bB (α:=(fL×eW×bt)⊕(fL×bA×bt)) (bB (α:=(bA×fL×eW×bt)) ((sp (b,())).bind λ(k,_)=>bw (br (a.2.2.1>ay (65536-k))==bq) (Y (br (a.2.2.1<ay ((-65536:Z)-c)),(bq,((bq,([],())),((0:Z),()))),b,())) (Y (bp,(bq,((bq,([],())),((0:Z),()))),b,()))) λ(l,m,e,_)=>bw l ((yV ()).bind λ(h,_)=>Y (.inr (h,bq,()))) (Y (.inl (m,e,())))) λf=>match f with
 |.inl (_,d,_)=>((yW (d,c,())).bind λ(i,_)=>Y ((bq,(i,(ay (a.2.2.1+c),()))),bp,()))
 |.inr g=>Y g))
def uo:pL->bv he:=λ(b,a,_)=>(pT ((bq,(b,(a,()))),())).bind λ(c,_,_)=>Y (c,())
def jW:cJ->bv he:=λ(b,_)=>(wG (b,())).bind λ(a,c,_)=>bB (α:=(Z×Z×fL×bt)⊕he) (bw (a==2047) (Y (.inr ((bp,((bq,([],())),((0:Z),()))),()))) (bw (a==0) (Y (.inl ((-1074:Z),c,(bq,((bq,([],())),((0:Z),()))),()))) (Y (.inl (ay (a-1075),fN bC c 4503599627370496,(bq,((bq,([],())),((0:Z),()))),()))))) λi=>match i with
 |.inl (f,g,e,_)=>((uu (ay g,())).bind λ(d,_)=>bB (α:=(fL×eW×bt)) ((BZ (b,())).bind λ(l,_)=>bw l ((sq (d,())).bind λ(m,_)=>Y (e,m,())) (Y (e,d,()))) λ(_,h,_)=>(uo (h,f,())).bind λ(k,_)=>Y (k,()))
 |.inr j=>Y j
def wE:ly->bv (fL×fL×bA×bt):=λ(c,d,_)=>(pT (c,())).bind λ(a,aJ,_)=>(pT (d,())).bind λ(b,e,_)=>(bw (aJ==bp) (Y (a,b,e,())) (Y (a,b,bq,())))
def Ce:jT->bv hm:=λ(c,a,_)=>bB (α:=bt⊕hm) (bw ((al c==0)==bq) (bw (al a==0) (Y (.inr ([],()))) (Y (.inl ()))) (Y (.inr ([],())))) λo=>match o with
 |.inl _=>((fY (ay (al c+al a)) (ay (al c+al a))).bind λl=>(loop (σ:=iI) (ρ:=hm) (λ(b,g,_)=>bw (br (b<al c)) ((ao c b).bind λh=>(loop (σ:=pK) (ρ:=iI) (λ(e,d,f,_)=>bw (br (d<al a)) ((ao a d).bind λi=>rd f (ay (b+d)) λj=>wr f (ay (b+d)) (dc (ey bC (aL (aL (aL (aL h*aL i)+aL j)+e)) 4294967295)) λs=>(eJ bC (aL (aL (aL (aL h*aL i)+aL j)+e)) 32).bind λr=>Y (.inl (r,aP d,s,()))) (Y (.inr (e,f,())))) (0,0,g,())).bind λ(k,m,_)=>wr m (ay (b+al a)) (dc k) λt=>Y (.inl (aP b,t,()))) (Y (.inr (g,())))) (0,bJ l (0:Z),())).bind λ(n,_)=>(iz (n,())).bind λ(q,_)=>Y (q,()))
 |.inr p=>Y p
def B9:lz->bv gK:=λ(a,b,_)=>(iz (a.2.1,())).bind λ(c,_)=>(iz (b.2.1,())).bind λ(aJ,_)=>(Ce (c,aJ,())).bind λ(d,_)=>(l4 ((!(a.1==b.1)),d,())).bind λ(e,_)=>Y (e,())
def nw:ly->bv he:=λ(b,c,_)=>(wE (b,c,())).bind λ(a,aJ,d,_)=>(bw (!d) ((yV ()).bind λ(e,_)=>Y (e,())) ((B9 (a.2.1,aJ.2.1,())).bind λ(f,_)=>(uo (f,ay (a.2.2.1+aJ.2.2.1),())).bind λ(g,_)=>Y (g,())))
def BS:he->bv he:=λ(b,_)=>(pT (b,())).bind λ(a,d,_)=>bB (α:=ly) (bw d ((sq (a.2.1,())).bind λ(aJ,_)=>Y ((a.1,(aJ,a.2.2)),(bq,((bq,([],())),((0:Z),()))),())) (Y (a,(bq,((bq,([],())),((0:Z),()))),()))) λ(c,_,_)=>Y (c,())
def oY:pL->bv gK:=λ(a,b,_)=>(qW (a,b,())).bind λ(c,_,_)=>Y (c,())
def BR:cJ->bv hu:=λ(a,_)=>Y ((a !=a),())
def BP:np->bv cJ:=λ(a,b,_)=>(BR (a,())).bind λ(c,_)=>(BR (b,())).bind λ(aJ,_)=>(bw c (bw aJ (Y (0,())) (Y ((-1:Z),()))) (bw aJ (Y (1,())) (bw (br (a<b)) (Y ((-1:Z),())) (bw (br (a>b)) (Y (1,())) (Y (0,()))))))
def wI:jT->bv cJ:=λ(b,c,_)=>(bif al b !=al c then(uk (al b,al c,())).bind λ(f,_)=>Y (f,()) else((loop (σ:=cJ) (ρ:=nl) (λ(a,_)=>bw (br (a>=0)) ((ao b a).bind λh=>(ao c a).bind λi=>bw (h !=i) ((ao b a).bind λj=>(ao c a).bind λk=>(BP (j,k,())).bind λ(g,_)=>Y (.inr (.inr (g,())))) (Y (.inl (ay (a-1),())))) (Y (.inr (.inl ())))) (ay (al b-1),())).bind λd=>match d with
 |.inl _=>(Y (0,()))
 |.inr e=>Y e))
def wJ:jT->bv hm:=λ(b,d,_)=>(fY (al b) (al b)).bind λi=>(loop (σ:=pK) (ρ:=hm) (λ(e,a,c,_)=>bw (br (a<al b)) (bB (α:=iI) ((ao b a).bind λg=>bB (α:=iI) (bw (br (a<al d)) ((ao d a).bind λn=>Y (aL (aL (aL g-e)-aL n),c,())) (Y (aL (aL g-e),c,()))) λ(f,j,_)=>wr j a (dc (ey bC f 4294967295)) λp=>(eJ bC f 32).bind λo=>Y (ey bC o 1,p,())) λ(h,k,_)=>Y (.inl (h,aP a,k,()))) (Y (.inr (c,())))) (0,0,bJ i (0:Z),())).bind λ(l,_)=>(iz (l,())).bind λ(m,_)=>Y (m,())
def us:lz->bv gK:=λ(a,c,_)=>(iz (a.2.1,())).bind λ(b,_)=>(iz (c.2.1,())).bind λ(aJ,_)=>(bw (a.1==c.1) ((wK (b,aJ,())).bind λ(f,_)=>(l4 (a.1,f,())).bind λ(g,_)=>Y (g,())) ((wI (b,aJ,())).bind λ(h,_)=>bw (br (h>=0)) ((wJ (b,aJ,())).bind λ(i,_)=>(l4 (a.1,i,())).bind λ(j,_)=>Y (j,())) ((wJ (aJ,b,())).bind λ(d,_)=>(l4 (c.1,d,())).bind λ(e,_)=>Y (e,()))))
def mT:he->bv cJ:=λ(a,_)=>(pT (a,())).bind λ(b,_,_)=>(pU (b.2.1,())).bind λ(aJ,_)=>Y (aJ,())
def wC:he->bv he:=λ(a,_)=>(pT (a,())).bind λ(b,_,_)=>Y (b,())
def Cd:nm->bv nm:=λ(a,c,_)=>(fY (al a) (al a)).bind λh=>(loop (σ:=pK) (ρ:=iI) (λ(e,b,d,_)=>bw (br (b>=0)) ((h2 bC e 32).bind λf=>(ao a b).bind λg=>(ki bC (fN bC f (aL g)) (aL c)).bind λl=>wr d b (dc l) λn=>(iC (fN bC f (aL g)) (aL c)).bind λm=>Y (.inl (m,ay (b-1),n,()))) (Y (.inr (e,d,())))) (0,ay (al a-1),bJ h (0:Z),())).bind λ(k,i,_)=>(iz (i,())).bind λ(j,_)=>Y (j,dc k,())
def ux:cJ->bv cJ:=λ(b,_)=>(wO (b,())).bind λ(a,_)=>Y (ay (32-a),())
def y6:((bf×X×X)×bf×bt)->bv nm:=λ(b,a,_)=>(bj (b.2.2-b.2.1) (al a)).bind λV=>(a9 b.1 (b.2.1+V) λP=>Y P).bind λdl=>(h2 bC (aL dl) 32).bind λI=>(bj (b.2.2-b.2.1) (ay (al a-1))).bind λav=>(a9 b.1 (b.2.1+av) λT=>Y T).bind λK=>(ao a (ay (al a-1))).bind λbs=>(ki bC (fN bC I (aL K)) (aL bs)).bind λbx=>(ao a (ay (al a-1))).bind λce=>(iC (fN bC I (aL K)) (aL ce)).bind λci=>(loop (σ:=(ep×Z×Z×bf×bt)) (ρ:=(ep×Z×bf×bt)) (λ(g,h,r,m,_)=>bB (α:=(ep×bf×bt)⊕((ep×Z×Z×bf×bt)⊕(ep×Z×bf×bt))) (bif br (h>4294967295)==bq then(ao a (ay (al a-2))).bind λco=>(h2 bC r 32).bind λcs=>(bj (g.2-g.1) (ay (al a-2))).bind λU=>(a9 m (g.1+U) λN=>Y N).bind λcv=>bif br (aL (h*aL co)>fN bC cs (aL cv)) then
 Y (.inl (g,m,())) else Y (.inr (.inr (g,h,m,()))) else Y (.inl (g,m,()))) λa0=>match a0 with
 |.inl (C,D,_)=>((ao a (ay (al a-1))).bind λE=>bw (br (aL (r+aL E)>4294967295)) (Y (.inr (C,aL (h-1),D,()))) (Y (.inl (C,aL (h-1),aL (r+aL E),D,()))))
 |.inr a3=>Y a3) (b.2,bx,ci,b.1,())).bind λ(a4,i,bl,_)=>(loop (σ:=(ep×Z×Z×Z×bf×bt)) (ρ:=(ep×Z×Z×bf×bt)) (λ(e,l,p,j,n,_)=>bw (br (j<al a)) ((ao a j).bind λu=>(eJ bC (aL (aL (i*aL u)+l)) 32).bind λc1=>(bj (e.2-e.1) j).bind λad=>(a9 n (e.1+ad) λO=>Y O).bind λF=>(bj (e.2-e.1) j).bind λy=>(a9 n (e.1+y) λ_=>Y (n.set (e.1+y) (dc (ey bC (aL (aL (aL F-ey bC (aL (aL (i*aL u)+l)) 4294967295)-p)) 4294967295)))).bind λd2=>(eJ bC (aL (aL (aL F-ey bC (aL (aL (i*aL u)+l)) 4294967295)-p)) 32).bind λc2=>Y (.inl (e,c1,ey bC c2 1,aP j,d2,()))) (Y (.inr (e,l,p,n,())))) (a4,0,0,0,bl,())).bind λ(c,x,w,s,_)=>(bj (c.2-c.1) (al a)).bind λam=>(a9 s (c.1+am) λQ=>Y Q).bind λG=>
 (bj (c.2-c.1) (al a)).bind λz=>(a9 s (c.1+z) λ_=>Y (s.set (c.1+z) (dc (ey bC (aL (aL (aL G-x)-w)) 4294967295)))).bind λv=>(eJ bC (aL (aL (aL G-x)-w)) 32).bind λds=>(bif ey bC ds 1==0 then bw (bH c.1 b.2.1&&(bH c.2 b.2.2&&(bH v.length ((b.1).length)&&cb c.1 c.2))) (Y (v,dc i,())) bo else(loop (σ:=(ep×Z×Z×bf×bt)) (ρ:=(ep×Z×bf×bt)) (λ(f,q,k,o,_)=>bw (br (k<al a)) ((ao a k).bind λH=>(bj (f.2-f.1) k).bind λan=>(a9 o (f.1+an) λR=>Y R).bind λJ=>(bj (f.2-f.1) k).bind λA=>(a9 o (f.1+A) λ_=>Y (o.set (f.1+A) (dc (ey bC (aL (aL (aL J+aL H)+q)) 4294967295)))).bind λd3=>(eJ bC (aL (aL (aL J+aL H)+q)) 32).bind λd0=>Y (.inl (f,d0,aP k,d3,()))) (Y (.inr (f,q,o,())))) (c,0,0,v,())).bind λ(d,M,t,_)=>
 (bj (d.2-d.1) (al a)).bind λap=>(a9 t (d.1+ap) λS=>Y S).bind λd1=>(bj (d.2-d.1) (al a)).bind λB=>(a9 t (d.1+B) λ_=>Y (t.set (d.1+B) (dc (d1+dc M)))).bind λL=>bw (bH d.1 b.2.1&&(bH d.2 b.2.2&&(bH L.length ((b.1).length)&&cb d.1 d.2))) (Y (L,dc (aL (i-1)),())) bo)
def Cc:jT->bv jT:=λ(a,b,_)=>(wI (a,b,())).bind λ(t,_)=>(bif br (t<0) then(uz (a,())).bind λ(u,_)=>Y ([],u,()) else bif al b==1 then(ao b 0).bind λC=>(Cd (a,C,())).bind λ(v,w,_)=>(iz ([w],())).bind λ(x,_)=>Y (v,x,()) else(ao b (ay (al b-1))).bind λD=>(ux (D,())).bind λ(h,_)=>(wL (b,h,())).bind λ(e,_)=>(fY (aP (al a)) (aP (al a))).bind λc=>(wL (a,h,())).bind λ(i,_)=>(fY (ay (al (jk (bJ c (0:Z)) i 0 (bJ c (0:Z)).length)-al e)) (ay (al (jk (bJ c (0:Z)) i 0 (bJ c (0:Z)).length)-al e))).bind λn=>(loop (σ:=(Z×bf×bf×bt)) (ρ:=jT) (λ(d,p,g,_)=>bif br (d>=0) then((gv d).bind λj=>(gv (aP (ay (d+al e)))).bind λk=>(g9 j k g.length).bind λ_=>(nK g.length).map λ_=>(j,k)).bind λf=>
 bw (cb f.1 f.2) ((y6 ((g,f.1,f.2),e,())).bind λ(r,y,_)=>wr p d y λE=>Y (.inl (ay (d-1),E,r,()))) bo else Y (.inr (p,g,()))) (ay (al (bJ n (0:Z))-1),bJ n (0:Z),jk (bJ c (0:Z)) i 0 (bJ c (0:Z)).length,())).bind λ(s,q,_)=>((Y (0)).bind λl=>(gv (al e)).bind λm=>(g9 l m q.length).map λ_=>(l,m)).bind λo=>(iz (((q.take o.2).drop o.1),())).bind λ(z,_)=>(y7 (z,h,())).bind λ(A,_,_)=>(iz (s,())).bind λ(B,_)=>Y (B,A,()))
def y4:lz->bv cJ:=λ(b,c,_)=>(pU (b,())).bind λ(a,_)=>(pU (c,())).bind λ(aJ,_)=>(bw (br (a<aJ)) (Y ((-1:Z),())) (bw (br (a>aJ)) (Y (1,())) ((iz (b.2.1,())).bind λ(d,_)=>(iz (c.2.1,())).bind λ(e,_)=>(wI (d,e,())).bind λ(f,_)=>Y (ay (a*f),()))))
def BU:(wh×bt)->bv cJ:=λ(a,_)=>(sp (a.2.1,())).bind λ(b,_)=>Y (ay (ay (a.2.2.1+b)-1),())
def Cb:lz->bv gK:=λ(b,a,_)=>(us (b,((!a.1),a.2),())).bind λ(c,_)=>Y (c,())
def yT:(wh×Z×bt)->bv (eW×Z×bA×bt):=λ(a,b,_)=>(sp (a.2.1,())).bind λ(h,_)=>(bw (br (b>h)) (Y ((bq,(([]:bf),())),(-1:Z),bq,())) ((yW (a.2.1,b,())).bind λ(aJ,_)=>(oY (aJ,b,())).bind λ(i,_)=>(Cb (a.2.1,i,())).bind λ(c,_)=>(uu (1,())).bind λ(j,_)=>(oY (j,ay (b-1),())).bind λ(k,_)=>(y4 (c,k,())).bind λ(d,_)=>bB (α:=(Z×eW×eW×bt)) (bw ((d==0)==bp) (bw a.2.2.2.1 (Y (1,aJ,c,())) (Y (d,aJ,c,()))) (Y (d,aJ,c,()))) λ(e,f,l,_)=>(pU (l,())).bind λ(g,_)=>bw ((g==0)==bp) (Y (f,e,(!a.2.2.2.1),())) (Y (f,e,bq,()))))
def BV:(wh×Z×Z×bt)->bv gK:=λ(c,e,d,_)=>bB (α:=(Z×bA×eW×eW×bt)) (bw (br (e<=c.2.2.1)) ((oY (c.2.1,ay (c.2.2.1-e),())).bind λ(aJ,_)=>Y ((-1:Z),bp,(bq,([],())),aJ,())) ((yT (c,ay (e-c.2.2.1),())).bind λ(s,t,u,_)=>Y (t,u,(bq,([],())),s,()))) λ(f,l,b,a,_)=>bB (α:=(bA×eW×eW×bt)) (bw l (Y (bq,b,a,())) (bw (d==1) (Y (c.1,b,a,())) (bw (d==2) (Y ((!c.1),b,a,())) (bw (d==3) (Y (bq,b,a,())) (bw (br (f>0)==bq) (bw ((f==0)==bp) ((pU (a,())).bind λ(n,_)=>bw ((n !=0)==bp) ((y5 (a,())).bind λ(o,_)=>Y ((o==0),b,a,())) (Y (bq,b,a,()))) (Y (bq,b,a,()))) (Y (bp,b,a,()))))))) λ(k,i,g,_)=>bB (α:=lz) (bw k ((uu (1,())).bind λ(p,_)=>(us (g,p,())).bind λ(q,_)=>Y (i,q,())) (Y (i,g,()))) λ(j,h,_)=>bB (α:=lz) (bw c.1 ((sq (h,())).bind λ(r,_)=>Y (j,r,())) (Y (j,h,()))) λ(_,m,_)=>Y (m,())
def ur:gK->bv gK:=λ(a,_)=>(uz (a.2.1,())).bind λ(b,_)=>(l4 (bq,b,())).bind λ(c,_)=>Y (c,())
def B8:gK->bv eg:=λ(c,_)=>(iz (c.2.1,())).bind λ(d,_)=>(bif br (al d>2) then Y (0,bq,()) else((loop (σ:=np) (ρ:=cJ) (λ(e,b,_)=>bw (br (b<al d)) ((ao d b).bind λj=>(h2 bC (aL j) (ay (32*b))).bind λk=>Y (.inl (fN bC e k,aP b,()))) (Y (.inr (e,())))) (0,0,())).bind λ(a,_)=>bB (α:=bt⊕eg) (bB (α:=hu) (bw (c.1==bp) (bw (br (a>0)==bp) (Y (br (a<=9223372036854775808),())) (Y (bq,()))) (Y (bq,()))) λ(h,_)=>bw h (Y (.inr (ay (ay (0-ay (aL (a-1)))-1),bp,()))) (bB (α:=hu) (bw (br (a<9223372036854775808)==bp) (bw ((!c.1)==bq) (Y ((a==0),())) (Y (bp,()))) (Y (bq,()))) λ(i,_)=>bw i (Y (.inr (ay a,bp,()))) (Y (.inl ())))) λf=>match f with
 |.inl _=>(Y (0,bq,()))
 |.inr g=>Y g))
def uq:eg->bv cJ:=λ(a,b,_)=>(bw b (Y (fN bC a 9223372036854775808,())) (Y (a,())))
def B0:ei->bv cJ:=λ(a,b,_)=>bB (α:=bt⊕cJ) (bB (α:=hu) (bw ((b==3)==bq) (bw ((b==1)==bp) (bw ((!a)==bq) (bw ((b==2)==bp) (Y (a,())) (Y (bq,()))) (Y (bp,()))) (bw ((b==2)==bp) (Y (a,())) (Y (bq,())))) (Y (bp,()))) λ(f,_)=>bw f ((uq (9218868437227405311,a,())).bind λ(aJ,_)=>Y (.inr (aJ,()))) (Y (.inl ()))) λc=>match c with
 |.inl _=>((uq (9218868437227405312,a,())).bind λ(e,_)=>Y (e,()))
 |.inr d=>Y d
def yX:(wh×Z×bt)->bv cJ:=λ(b,d,_)=>(BU (b,())).bind λ(a,_)=>(BV (b,(if(-1074:Z)>ay (a-52) then(-1074:Z) else ay (a-52)),d,())).bind λ(aJ,_)=>(ur (aJ,())).bind λ(j,_)=>(B8 (j,())).bind λ(f,_,_)=>bB (α:=np) (bw (aL f==9007199254740992) (Y (aP (if(-1074:Z)>ay (a-52) then(-1074:Z) else ay (a-52)),4503599627370496,())) (Y ((if(-1074:Z)>ay (a-52) then(-1074:Z) else ay (a-52)),aL f,()))) λ(e,c,_)=>(bw (br (c<4503599627370496)) ((uq (c,b.1,())).bind λ(g,_)=>Y (g,())) (bw (br (ay (e+1075)>=2047)) ((B0 (b.1,d,())).bind λ(h,_)=>Y (h,())) ((h2 bC (aL (ay (e+1075))) 52).bind λk=>(uq (fN bC k (aL (c-4503599627370496)),b.1,())).bind λ(i,_)=>Y (i,()))))
def BW:cJ->bv cJ:=λ(c,_)=>(wG (c,())).bind λ(a,b,_)=>bB (α:=hu) (bw ((a==2047)==bp) (Y ((b !=0),())) (Y (bq,()))) λ(d,_)=>(bw d (Y (3,())) (bw (a==2047) (Y (2,())) (bw ((a==0)==bp) (bw (b==0) (Y (0,())) (Y (1,()))) (Y (1,())))))
def B7:lz->bv (eW×eW×Z×bt):=λ(a,d,_)=>(iz (d.2.1,())).bind λ(b,_)=>(bw (al b==0) (Y ((bq,(([]:bf),())),(bq,(([]:bf),())),8,())) ((iz (a.2.1,())).bind λ(aJ,_)=>(Cc (aJ,b,())).bind λ(f,c,_)=>bB (α:=(bf×bf×eW×eW×bt)) (bB (α:=(bA×eW×eW×bt)) (bw (a.1==bp) (Y (br (al c>0),(bq,([],())),(bq,([],())),())) (Y (bq,(bq,([],())),(bq,([],())),()))) λ(n,e,g,_)=>bw n ((wK (f,[1],())).bind λ(j,_)=>(wJ (b,c,())).bind λ(k,_)=>Y (j,k,e,g,())) (Y (f,c,e,g,()))) λ(h,i,_,_,_)=>(l4 ((!(a.1==d.1)),h,())).bind λ(l,_)=>(l4 (bq,i,())).bind λ(m,_)=>Y (l,m,0,())))
def BT:(fL×fL×Z×bt)->bv (wh×bt):=λ(a,b,c,_)=>(sp (b.2.1,())).bind λ(aJ,_)=>(sp (a.2.1,())).bind λ(d,_)=>(ur (a.2.1,())).bind λ(g,_)=>(oY (g,(if(ay (ay (ay (c+3)+aJ)-d))>0 then ay (ay (ay (c+3)+aJ)-d) else 0),())).bind λ(h,_)=>(ur (b.2.1,())).bind λ(i,_)=>(B7 (h,i,())).bind λ(j,e,_,_)=>(pU (e,())).bind λ(f,_)=>Y (((!(a.2.1.1==b.2.1.1)),(j,(ay (ay (a.2.2.1-(if(ay (ay (ay (c+3)+aJ)-d))>0 then ay (ay (ay (c+3)+aJ)-d) else 0))-b.2.2.1),((f !=0),())))),())
def so:(fL×fL×Z×bt)->bv cJ:=λ(c,f,h,_)=>(wC (c,())).bind λ(aJ,_)=>(wC (f,())).bind λ(a,_)=>bB (α:=ly⊕cJ) (bB (α:=(bA×fL×fL×bt)) (bw (aJ.1==bq) (bw (a.1==bq) ((mT (a,())).bind λ(n,_)=>Y ((n==0),aJ,a,())) (Y (bp,aJ,a,()))) (Y (bp,aJ,a,()))) λ(o,b,g,_)=>bw o (Y (.inr (9221120237041090560,()))) ((mT (b,())).bind λ(k,_)=>bw (k==0) (Y (.inr (0,()))) (Y (.inl (b,g,()))))) λi=>match i with
 |.inl (d,e,_)=>((BT (d,e,56,())).bind λ(l,_)=>(yX (l,h,())).bind λ(m,_)=>Y (m,()))
 |.inr j=>Y j
def q0:cJ->bv hu:=λ(a,_)=>(eJ bC a 52).bind λb=>Y ((ey bC b 2047 !=2047),())
def Dd:cJ->bv hu:=λ(a,_)=>Y ((ey bC a 9223372036854775808 !=0),())
def kU:cJ->bv he:=λ(a,_)=>(q0 (a,())).bind λ(f,_)=>(bw (!f) ((uD ()).bind λ(g,_)=>Y (g,())) ((eJ bC a 52).bind λc=>bB (α:=(Z×Z×fL×bt)) (bw (br (ay (ey bC c 2047)>0)) (Y (fN bC (ey bC a 4503599627370495) 4503599627370496,ay (ay (ey bC c 2047)-1075),(bq,((bq,([],())),((0:Z),()))),())) (Y (ey bC a 4503599627370495,(-1074:Z),(bq,((bq,([],())),((0:Z),()))),()))) λ(b,d,_,_)=>(Dd (a,())).bind λ(h,_)=>(eJ bC b 32).bind λi=>(o0 ((h,([dc b,dc i],())),d,())).bind λ(e,_)=>Y (e,())))
def C5:he->bv he:=λ(b,_)=>(mq (b,())).bind λ(a,_)=>(bw a.1 (Y (a,())) ((qY (a.2.1,())).bind λ(c,_)=>(o0 (c,a.2.2.1,())).bind λ(aJ,_)=>Y (aJ,())))
def C4:jT->bv hm:=λ(d,b,_)=>(fY (ay (al d+al b)) (ay (al d+al b))).bind λl=>(loop (σ:=iI) (ρ:=hm) (λ(a,g,_)=>bw (br (a<al d)) ((loop (σ:=pK) (ρ:=iI) (λ(e,c,f,_)=>bw (br (c<al b)) ((ao d a).bind λj=>(ao b c).bind λh=>rd f (ay (a+c)) λi=>wr f (ay (a+c)) (dc (aL (aL (e+aL (aL j*aL h))+aL i))) λp=>(eJ bC (aL (aL (e+aL (aL j*aL h))+aL i)) 32).bind λo=>Y (.inl (o,aP c,p,()))) (Y (.inr (e,f,())))) (0,0,g,())).bind λ(k,m,_)=>wr m (ay (a+al b)) (dc k) λq=>Y (.inl (aP a,q,()))) (Y (.inr (g,())))) (0,bJ l (0:Z),())).bind λ(n,_)=>Y (n,())
def C1:lz->bv gK:=λ(a,b,_)=>(mn (a.2.1,())).bind λ(c,_)=>(mn (b.2.1,())).bind λ(aJ,_)=>(C4 (c,aJ,())).bind λ(d,_)=>(l5 ((!(a.1==b.1)),d,())).bind λ(e,_)=>Y (e,())
def kb:ly->bv he:=λ(d,f,_)=>(mq (d,())).bind λ(a,_)=>(mq (f,())).bind λ(aJ,_)=>bB (α:=(fL×fL×fL×bt)⊕he) (bB (α:=(bA×fL×fL×fL×bt)) (bw (a.1==bq) (Y (aJ.1,a,aJ,(bq,((bq,([],())),((0:Z),()))),())) (Y (bp,a,aJ,(bq,((bq,([],())),((0:Z),()))),()))) λ(m,e,g,n,_)=>bw m ((uD ()).bind λ(l,_)=>Y (.inr (l,()))) (Y (.inl (e,g,n,())))) λh=>match h with
 |.inl (b,c,_,_)=>((C1 (b.2.1,c.2.1,())).bind λ(j,_)=>(o0 (j,ay (b.2.2.1+c.2.2.1),())).bind λ(k,_)=>Y (k,()))
 |.inr i=>Y i
def C8:he->bv he:=λ(b,_)=>(mq (b,())).bind λ(a,_)=>(bw a.1 (Y (a,())) ((zn (a.2.1,())).bind λ(c,_)=>(o0 (c,a.2.2.1,())).bind λ(aJ,_)=>Y (aJ,())))
def zq:(bf×bf×Z×Z×bt)->bv (bf×bA×bt):=λ(w,b,i,r,_)=>(fY (aP (al b)) (aP (al b))).bind λs=>(loop (σ:=(Z×Z×Z×bf×bf×bt)) (ρ:=(Z×bf×bf×bt)) (λ(d,h,a,g,f,_)=>bw (br (a<=al b)) (bB (α:=(Z×Z×bf×bf×bt)) (bB (α:=(Z×bf×bf×bt)) (bw (br (a<al b)) ((ao b a).bind λz=>Y (aL (h+aL (r*aL z)),g,f,())) (Y (h,g,f,()))) λ(e,k,t,_)=>rd k (ay (a+i)) λn=>(eJ bC e 32).bind λA=>wr t a (dc (aL (aL (aL n-d)-ey bC e 4294967295))) λD=>(eJ bC (aL (aL (aL n-d)-ey bC e 4294967295)) 63).bind λB=>Y (B,A,k,D,())) λ(o,q,x,u,_)=>Y (.inl (o,q,aP a,x,u,()))) (Y (.inr (d,g,f,())))) (0,0,0,w,bJ s (0:Z),())).bind λ(p,l,v,_)=>
 (bw (p !=0) (Y (l,bq,())) ((loop (σ:=(Z×bf×bf×bt)) (ρ:=hm) (λ(c,m,j,_)=>bw (br (c<=al b)) (rd j c λC=>wr m (ay (c+i)) C λE=>Y (.inl (aP c,E,j,()))) (Y (.inr (m,())))) (0,l,v,())).bind λ(y,_)=>Y (y,bp,())))
def C3:jT->bv jT:=λ(b,a,_)=>(zo (b,a,())).bind λ(u,_)=>(bif br (u<0) then Y ([],b,()) else(ao a (ay (al a-1))).bind λE=>(ux (E,())).bind λ(i,_)=>(wT (b,i,())).bind λ(e,_)=>(wT (a,i,())).bind λ(f,_)=>((Y (0)).bind λj=>(gv (al a)).bind λk=>(g9 j k f.length).bind λ_=>(nK f.length).map λ_=>(j,k)).bind λd=>bB (α:=jT) (bw (al e==al b) ((cD (e.length+([0]).length)).bind λ_=>Y (((f.take d.2).drop d.1),(e++[0]),())) (Y (((f.take d.2).drop d.1),e,()))) λ(o,A,_)=>(fY (aP (ay (al b-al a))) (aP (ay (al b-al a)))).bind λr=>(loop (σ:=(Z×bf×bf×bt)) (ρ:=jT) (λ(c,g,m,_)=>bif br (c>=0) then rd g (ay (c+al a)) λF=>(h2 bC (aL F) 32).bind λG=>rd g (ay (ay (c+al a)-1)) λH=>
 (ao o (ay (al a-1))).bind λI=>(ki bC (fN bC G (aL H)) (aL I)).bind λp=>(loop (σ:=(Z×bf×bf×bt)) (ρ:=(Z×bf×bf×bt)) (λ(h,B,n,_)=>(zq (B,o,c,h,())).bind λ(l,v,_)=>bw (!v) (Y (.inl (aL (h-1),l,n,()))) (Y (.inr (h,l,n,())))) ((if 4294967295<p then 4294967295 else p),g,m,())).bind λ(q,C,s,_)=>wr s c (dc q) λJ=>Y (.inl (ay (c-1),C,J,())) else Y (.inr (g,m,()))) (ay (al b-al a),A,bJ r (0:Z),())).bind λ(D,t,_)=>(mn (D,())).bind λ(w,_)=>(wU (w,i,())).bind λ(x,_,_)=>(mn (t,())).bind λ(y,_)=>(mn (x,())).bind λ(z,_)=>Y (y,z,()))
def CZ:lz->bv lz:=λ(e,f,_)=>(pW (e,())).bind λ(a,_)=>(pW (f,())).bind λ(aJ,_)=>(C3 (a.2.1,aJ.2.1,())).bind λ(m,n,_)=>(l5 ((!(a.1==aJ.1)),m,())).bind λ(b,_)=>(l5 (a.1,n,())).bind λ(c,_)=>bB (α:=(eW×eW×eW×eW×bt)) ((mU (c,())).bind λ(o,_)=>bw (br (o<0)) ((qY (aJ,())).bind λ(h,_)=>(sw (c,h,())).bind λ(d,_)=>bw aJ.1 ((sx (1,())).bind λ(i,_)=>(sw (b,i,())).bind λ(j,_)=>Y ((bq,([],())),(bq,([],())),j,d,())) ((sx (1,())).bind λ(k,_)=>(wS (b,k,())).bind λ(l,_)=>Y ((bq,([],())),(bq,([],())),l,d,()))) (Y ((bq,([],())),(bq,([],())),b,c,()))) λ(_,_,g,p,_)=>Y (g,p,())
def CY:lz->bv cJ:=λ(a,b,_)=>(wS (a,b,())).bind λ(c,_)=>(mU (c,())).bind λ(aJ,_)=>Y (aJ,())
def Da:he->bv cJ:=λ(b,_)=>(mq (b,())).bind λ(a,_)=>(bw a.1 (Y (0,())) ((mU (a.2.1,())).bind λ(c,_)=>Y (c,())))
def C9:(eW×eW×Z×bt)->bv (eW×Z×bA×bt):=λ(c,d,a,_)=>(uC (d,())).bind λ(aJ,_)=>(uC (c,())).bind λ(b,_)=>(n9 (c,(if 0>ay (ay (ay (a+2)+aJ)-b) then 0 else ay (ay (ay (a+2)+aJ)-b)),())).bind λ(e,_)=>(CZ (e,d,())).bind λ(f,g,_)=>(mU (g,())).bind λ(h,_)=>Y (f,ay (0-(if 0>ay (ay (ay (a+2)+aJ)-b) then 0 else ay (ay (ay (a+2)+aJ)-b))),(h !=0),())
def De:(fL×fL×Z×bt)->bv cJ:=λ(d,e,f,_)=>(mq (d,())).bind λ(aJ,_)=>(mq (e,())).bind λ(c,_)=>bB (α:=ly⊕cJ) (bw (aJ.1==bq) (bw (c.1==bq) ((mU (c.2.1,())).bind λ(o,_)=>bw (o==0) (Y (.inr (9221120237041090560,()))) (Y (.inl (aJ,c,())))) (Y (.inr (9221120237041090560,())))) (Y (.inr (9221120237041090560,())))) λg=>match g with
 |.inl (a,b,_)=>((mU (a.2.1,())).bind λ(p,_)=>bw (p==0) (Y (0,())) ((qY (a.2.1,())).bind λ(i,_)=>(qY (b.2.1,())).bind λ(j,_)=>(C9 (i,j,60,())).bind λ(k,l,m,_)=>(zu ((!(a.2.1.1==b.2.1.1)),k,ay (ay (a.2.2.1-b.2.2.1)+l),m,f,())).bind λ(n,_)=>Y (n,())))
 |.inr h=>Y h
def sA:ly->bv (eW×eW×Z×bt):=λ(a,b,_)=>(mU (a.2.1,())).bind λ(c,_)=>(bw (c==0) (Y (a.2.1,b.2.1,b.2.2.1,())) ((mU (b.2.1,())).bind λ(aJ,_)=>bw (aJ==0) (Y (a.2.1,b.2.1,a.2.2.1,())) (bw (br (a.2.2.1>b.2.2.1)) ((n9 (a.2.1,ay (a.2.2.1-b.2.2.1),())).bind λ(d,_)=>Y (d,b.2.1,b.2.2.1,())) ((n9 (b.2.1,ay (b.2.2.1-a.2.2.1),())).bind λ(e,_)=>Y (a.2.1,e,a.2.2.1,())))))
def sy:ly->bv he:=λ(b,f,_)=>(mq (b,())).bind λ(a,_)=>(mq (f,())).bind λ(aJ,_)=>bB (α:=(fL×fL×fL×bt)⊕he) (bB (α:=(bA×fL×fL×fL×bt)) (bw (a.1==bq) (Y (aJ.1,a,aJ,(bq,((bq,([],())),((0:Z),()))),())) (Y (bp,a,aJ,(bq,((bq,([],())),((0:Z),()))),()))) λ(p,d,g,q,_)=>bw p ((uD ()).bind λ(o,_)=>Y (.inr (o,()))) (Y (.inl (d,g,q,())))) λh=>match h with
 |.inl (c,e,_,_)=>((sA (c,e,())).bind λ(j,k,l,_)=>(sw (j,k,())).bind λ(m,_)=>(o0 (m,l,())).bind λ(n,_)=>Y (n,()))
 |.inr i=>Y i
def uE:ly->bv he:=λ(a,b,_)=>(C8 (b,())).bind λ(c,_)=>(sy (a,c,())).bind λ(aJ,_)=>Y (aJ,())
def C6:ly->bv eg:=λ(b,e,_)=>(mq (b,())).bind λ(a,_)=>(mq (e,())).bind λ(aJ,_)=>bB (α:=ly⊕eg) (bB (α:=(bA×fL×fL×bt)) (bw (a.1==bq) (Y (aJ.1,a,aJ,())) (Y (bp,a,aJ,()))) λ(m,c,f,_)=>bw m (Y (.inr (0,bq,()))) (Y (.inl (c,f,())))) λh=>match h with
 |.inl (d,g,_)=>((sA (d,g,())).bind λ(j,k,_,_)=>(CY (j,k,())).bind λ(l,_)=>Y (l,bp,()))
 |.inr i=>Y i
def qV:cJ->bv he:=λ(a,_)=>(uu (a,())).bind λ(b,_)=>(uo (b,0,())).bind λ(c,_)=>Y (c,())
def yU:ly->bv (eW×eW×Z×bt):=λ(a,b,_)=>(oY (a.2.1,ay (a.2.2.1-(if b.2.2.1<a.2.2.1 then b.2.2.1 else a.2.2.1)),())).bind λ(c,_)=>(oY (b.2.1,ay (b.2.2.1-(if b.2.2.1<a.2.2.1 then b.2.2.1 else a.2.2.1)),())).bind λ(aJ,_)=>Y (c,aJ,(if b.2.2.1<a.2.2.1 then b.2.2.1 else a.2.2.1),())
def yR:ly->bv he:=λ(a,b,_)=>(wE (a,b,())).bind λ(e,aJ,f,_)=>(bw (!f) ((yV ()).bind λ(g,_)=>Y (g,())) ((yU (e,aJ,())).bind λ(h,i,j,_)=>(us (h,i,())).bind λ(c,_)=>(uo (c,j,())).bind λ(d,_)=>Y (d,())))
def wD:ly->bv he:=λ(a,b,_)=>(BS (b,())).bind λ(c,_)=>(yR (a,c,())).bind λ(aJ,_)=>Y (aJ,())
def yS:ly->bv eg:=λ(a,b,_)=>(wE (a,b,())).bind λ(c,aJ,d,_)=>(bw (!d) (Y (0,bq,())) ((yU (c,aJ,())).bind λ(e,f,_,_)=>(y4 (e,f,())).bind λ(g,_)=>Y (g,bp,())))
def CE:(Z×Z×Z×bt)->bv hu:=λ(a,c,b,_)=>(bw (br (a>=c)==bp) (Y (br (a<=b),())) (Y (bq,())))
def CL:hm->bv hu:=λ(b,_)=>(loop (σ:=cJ) (ρ:=pJ) (λ(a,_)=>bw (br (a>0)) ((ao b a).bind λf=>(ao b (ay (a-1))).bind λg=>(um (f,g,())).bind λ(e,_)=>bw e (Y (.inr (.inr (bq,())))) (Y (.inl (ay (a-1),())))) (Y (.inr (.inl ())))) (ay (al b-1),())).bind λc=>match c with
 |.inl _=>(Y (bp,()))
 |.inr d=>Y d
def CC:nq->bv hu:=λ(a,_)=>bB (α:=bt⊕hu) (bw ((al a.2.2.1 !=aP a.2.1)==bq) ((ao a.2.2.1 0).bind λm=>bw ((m !=0)==bq) ((CL (a.2.2.1,())).bind λ(l,_)=>bw ((!l)==bq) ((ao a.2.2.1 a.2.1).bind λn=>bw ((n !=al a.2.2.2.1)==bq) (bw (al a.2.2.2.1 !=al a.2.2.2.2.1) (Y (.inr (bq,()))) (Y (.inl ()))) (Y (.inr (bq,())))) (Y (.inr (bq,())))) (Y (.inr (bq,())))) (Y (.inr (bq,())))) λb=>match b with
 |.inl _=>((loop (σ:=cJ) (ρ:=pJ) (λ(e,_)=>bif br (e<a.2.1) then((ao a.2.2.1 e).bind λo=>(ao a.2.2.1 (aP e)).bind λp=>((gv o).bind λh=>(gv p).bind λi=>(g9 h i (a.2.2.2.1).length).map λ_=>(h,i)).bind λd=>(loop (σ:=np) (ρ:=(bt⊕(cJ⊕pJ))) (λ(j,f,_)=>bif br (f<al (((a.2.2.2.1).take d.2).drop d.1)) then(bB (α:=cJ⊕(np⊕(bt⊕(cJ⊕pJ)))) ((ao (((a.2.2.2.1).take d.2).drop d.1) f).bind λg=>bB (α:=bt⊕(cJ⊕(np⊕(bt⊕(cJ⊕pJ))))) (bw (br (g<=j)==bq) (bw (br (g>=a.1)) (Y (.inr (.inr (.inr (.inr (.inr (.inr (bq,())))))))) (Y (.inl ()))) (Y (.inr (.inr (.inr (.inr (.inr (.inr (bq,()))))))))) λb=>match b with
 |.inl _=>(Y (.inl (g,())))
 |.inr c=>Y c) λb=>match b with
 |.inl (k,_)=>(Y (.inl (k,aP f,())))
 |.inr c=>Y c) else Y (.inr (.inl ()))) ((-1:Z),0,())).bind λb=>match b with
 |.inl _=>(Y (.inl (aP e,())))
 |.inr c=>Y c) else Y (.inr (.inl ()))) (0,())).bind λb=>match b with
 |.inl _=>(Y (bp,()))
 |.inr c=>Y c)
 |.inr c=>Y c
def GQ:cJ->bv hu:=λ(a,_)=>(ny (a,())).bind λ(b,_)=>Y ((!b),())
def GS:(bf×bt×bt)->bv cJ:=λ(b,_,_)=>(loop (σ:=cJ) (ρ:=nl) (λ(a,_)=>bw (br (a<al b)) ((ao b a).bind λf=>(GQ (f,())).bind λ(e,_)=>bw e (Y (.inr (.inr (a,())))) (Y (.inl (aP a,())))) (Y (.inr (.inl ())))) (0,())).bind λc=>match c with
 |.inl _=>(Y ((-1:Z),()))
 |.inr d=>Y d
def CF:(bf×bt×bt)->bv hu:=λ(b,_,_)=>(GS (b,(),())).bind λ(a,_)=>Y (br (a>=0),())
def ss:nq->bv cJ:=λ(a,_)=>bB (α:=hu) ((CE (a.1,0,200,())).bind λ(b,_)=>bw ((!b)==bq) ((CE (a.2.1,0,200,())).bind λ(c,_)=>bw ((!c)==bq) (Y (br (al a.2.2.2.1>10000),())) (Y (bp,()))) (Y (bp,()))) λ(f,_)=>(bw f (Y (6,())) ((CC (a,())).bind λ(d,_)=>bw (!d) (Y (1,())) ((CF (a.2.2.2.2.1,(),())).bind λ(e,_)=>bw e (Y (4,())) (Y (0,())))))
def Dx:nm->bv (bf×bA×bt):=λ(h,a,_)=>(bif al h !=a then Y ([],bq,()) else((fY a a).bind λi=>(fY a a).bind λj=>(loop (σ:=(Z×bf×g6×bt)) (ρ:=(hm⊕(bf×bA×bt))) (λ(f,e,g,_)=>bif br (f<al h) then(bB (α:=(bf×g6×bt)⊕((Z×bf×g6×bt)⊕(hm⊕(bf×bA×bt)))) ((ao h f).bind λd=>bB (α:=(bf×g6×bt)⊕((bf×g6×bt)⊕((Z×bf×g6×bt)⊕(hm⊕(bf×bA×bt))))) (bB (α:=(bA×bf×g6×bt)) (bw (br (d<0)==bq) (bw (br (d>=a)==bq) (rd g d λs=>Y (s,e,g,())) (Y (bp,e,g,()))) (Y (bp,e,g,()))) λ(o,k,p,_)=>bw o (Y (.inr (.inr (.inr (.inr ([],bq,())))))) (Y (.inl (k,p,())))) λb=>match b with
 |.inl (l,q,_)=>(wr l d f λt=>wr q d bp λu=>Y (.inl (t,u,())))
 |.inr c=>Y c) λb=>match b with
 |.inl (m,r,_)=>(Y (.inl (aP f,m,r,())))
 |.inr c=>Y c) else Y (.inr (.inl (e,())))) (0,bJ i (0:Z),bJ j bq,())).bind λb=>match b with
 |.inl (n,_)=>(Y (n,bp,()))
 |.inr c=>Y c))
def wQ:nq->bv jD:=λ(b,_)=>(loop (σ:=n5) (ρ:=jD) (λ(a,e,_)=>bw (br (a<b.2.1)) ((ao b.2.2.1 a).bind λj=>(loop (σ:=n5) (ρ:=jD) (λ(c,d,_)=>(ao b.2.2.1 (aP a)).bind λk=>bw (br (c<k)) ((ao b.2.2.2.1 c).bind λf=>(ao b.2.2.2.2.1 c).bind λg=>(cD (d.length+([(f,(a,(g,())))]).length)).bind λ_=>Y (.inl (aP c,(d++[(f,(a,(g,())))]),()))) (Y (.inr (d,())))) (j,e,())).bind λ(h,_)=>Y (.inl (aP a,h,()))) (Y (.inr (e,())))) (0,[],())).bind λ(i,_)=>Y (i,())
def GR:jD->bv jD:=λ(a,_)=>rz a.length (Y ([],())) ((cD (([]:kS).length+a.length)).bind λ_=>Y (([]++a),()))
def wR:((Z×(Z×cJ))×(Z×(Z×cJ))×bt)->bv cJ:=λ(a,b,_)=>(uk (a.2.1,b.2.1,())).bind λ(c,_)=>(uk (a.1,b.1,())).bind λ(aJ,_)=>(BQ ([c,aJ],())).bind λ(d,_)=>Y (d,())
def zi:(kS×Z×Z×bt×bt)->bv jD:=λ(h,e,g,_,_)=>(loop (σ:=n5) (ρ:=jD) (λ(d,f,_)=>bif br (d<g) then(loop (σ:=n5) (ρ:=jD) (λ(a,b,_)=>bB (α:=jD⊕(n5⊕jD)) (bw (br (a>e)==bp) (rd b a λn=>rd b (ay (a-1)) λo=>(wR (n,o,())).bind λ(m,_)=>bw (br (m<0)) (Y (.inl (b,()))) (Y (.inr (.inr (b,()))))) (Y (.inr (.inr (b,()))))) λk=>match k with
 |.inl (c,_)=>(rd c (ay (a-1)) λp=>rd c a λq=>wr c a p λr=>wr r (ay (a-1)) q λs=>Y (.inl (ay (a-1),s,())))
 |.inr l=>Y l) (d,f,())).bind λ(i,_)=>Y (.inl (aP d,i,())) else Y (.inr (f,()))) (aP e,h,())).bind λ(j,_)=>Y (j,())
def CS:Sw->bv jD:=λ(h,e,a,g,_,_)=>(bw (ay (a-e)==1) bo (bw (ay (g-a)==1) ((loop (σ:=yz) (ρ:=n5) (λ(c,d,b,_)=>bw (br (c<d)) ((eJ bC (aL (ay (c+d))) 1).bind λf=>rd b a λo=>rd b (ay f) λp=>(wR (o,p,())).bind λ(n,_)=>bw (!(br (n<0))) (Y (.inl (aP (ay f),d,b,()))) bo) (Y (.inr (c,b,())))) (e,a,h,())).bind λ(l,i,_)=>(loop (σ:=n5) (ρ:=jD) (λ(m,j,_)=>bw (br (m>l)) bo (Y (.inr (j,())))) (a,i,())).bind λ(k,_)=>Y (k,())) bo))
def G0:(kS×Z×bt×bt)->bv jD:=λ(l,a,_,_)=>(loop (σ:=yz) (ρ:=n5) (λ(e,c,h,_)=>bw (br (c<=a)) ((zi (h,e,c,(),())).bind λ(s,_)=>Y (.inl (c,ay (c+20),s,()))) (Y (.inr (e,h,())))) (0,20,l,())).bind λ(j,p,_)=>(zi (p,j,a,(),())).bind λ(q,_)=>(loop (σ:=n5) (ρ:=jD) (λ(b,f,_)=>bw (br (b<a)) ((loop (σ:=yz) (ρ:=n5) (λ(i,k,m,_)=>bw (br (k<=a)) bo (Y (.inr (i,m,())))) (0,ay (2*b),f,())).bind λ(d,g,_)=>bB (α:=jD) (bw (br (ay (d+b)<a)) ((CS (g,d,ay (d+b),a,(),())).bind λ(r,_)=>Y (r,())) (Y (g,()))) λ(n,_)=>Y (.inl (ay (b*2),n,()))) (Y (.inr (f,())))) (20,q,())).bind λ(o,_)=>
 Y (o,())
def GY:(kS×bt×bt)->bv jD:=λ(a,_,_)=>(G0 (a,al a,(),())).bind λ(b,_)=>Y (b,())
def CD:jD->bv jD:=λ(a,_)=>(GR (a,())).bind λ(c,_)=>(GY (c,(),())).bind λ(b,_)=>Y (b,())
def CB:yz->bv nq:=λ(s,e,o,_)=>(fY (aP e) (aP e)).bind λr=>(CD (o,())).bind λ(i,_)=>(loop (σ:=(Z×e0×e0×kS×bt)) (ρ:=(e0×e0×bt)) (λ(f,k,a,l,_)=>bif br (f<al i) then rd l f λb=>(cD ((a.2.2.2.1).length+([b.1]).length)).bind λ_=>(cD ((a.2.2.2.2.1).length+([b.2.2.1]).length)).bind λ_=>(bj (((a.1,(a.2.1,(a.2.2.1,((a.2.2.2.1++[b.1]),a.2.2.2.2)))).1,((a.1,(a.2.1,(a.2.2.1,((a.2.2.2.1++[b.1]),a.2.2.2.2)))).2.1,((a.1,(a.2.1,(a.2.2.1,((a.2.2.2.1++[b.1]),a.2.2.2.2)))).2.2.1,((a.1,(a.2.1,(a.2.2.1,((a.2.2.2.1++[b.1]),a.2.2.2.2)))).2.2.2.1,(((a.1,(a.2.1,(a.2.2.1,((a.2.2.2.1++[b.1]),a.2.2.2.2)))).2.2.2.2.1++[b.2.2.1]),(a.1,(a.2.1,(a.2.2.1,((a.2.2.2.1++[b.1]),a.2.2.2.2)))).2.2.2.2.2))))).2.2.1).length (aP b.2.1)).bind λn=>(a9 ((a.1,(a.2.1,(a.2.2.1,((a.2.2.2.1++[b.1]),a.2.2.2.2)))).1,((a.1,(a.2.1,(a.2.2.1,((a.2.2.2.1++[b.1]),a.2.2.2.2)))).2.1,((a.1,(a.2.1,(a.2.2.1,((a.2.2.2.1++[b.1]),a.2.2.2.2)))).2.2.1,((a.1,(a.2.1,(a.2.2.1,((a.2.2.2.1++[b.1]),a.2.2.2.2)))).2.2.2.1,(((a.1,(a.2.1,(a.2.2.1,((a.2.2.2.1++[b.1]),a.2.2.2.2)))).2.2.2.2.1++[b.2.2.1]),(a.1,(a.2.1,(a.2.2.1,((a.2.2.2.1++[b.1]),a.2.2.2.2)))).2.2.2.2.2))))).2.2.1 n λm=>Y m).bind λu=>
 (bj (((a.1,(a.2.1,(a.2.2.1,((a.2.2.2.1++[b.1]),a.2.2.2.2)))).1,((a.1,(a.2.1,(a.2.2.1,((a.2.2.2.1++[b.1]),a.2.2.2.2)))).2.1,((a.1,(a.2.1,(a.2.2.1,((a.2.2.2.1++[b.1]),a.2.2.2.2)))).2.2.1,((a.1,(a.2.1,(a.2.2.1,((a.2.2.2.1++[b.1]),a.2.2.2.2)))).2.2.2.1,(((a.1,(a.2.1,(a.2.2.1,((a.2.2.2.1++[b.1]),a.2.2.2.2)))).2.2.2.2.1++[b.2.2.1]),(a.1,(a.2.1,(a.2.2.1,((a.2.2.2.1++[b.1]),a.2.2.2.2)))).2.2.2.2.2))))).2.2.1).length (aP b.2.1)).bind λg=>((((a9 ((a.1,(a.2.1,(a.2.2.1,((a.2.2.2.1++[b.1]),a.2.2.2.2)))).1,((a.1,(a.2.1,(a.2.2.1,((a.2.2.2.1++[b.1]),a.2.2.2.2)))).2.1,((a.1,(a.2.1,(a.2.2.1,((a.2.2.2.1++[b.1]),a.2.2.2.2)))).2.2.1,((a.1,(a.2.1,(a.2.2.1,((a.2.2.2.1++[b.1]),a.2.2.2.2)))).2.2.2.1,(((a.1,(a.2.1,(a.2.2.1,((a.2.2.2.1++[b.1]),a.2.2.2.2)))).2.2.2.2.1++[b.2.2.1]),(a.1,(a.2.1,(a.2.2.1,((a.2.2.2.1++[b.1]),a.2.2.2.2)))).2.2.2.2.2))))).2.2.1 g λ_=>Y ((((a.1,(a.2.1,(a.2.2.1,((a.2.2.2.1++[b.1]),a.2.2.2.2)))).1,((a.1,(a.2.1,(a.2.2.1,((a.2.2.2.1++[b.1]),a.2.2.2.2)))).2.1,((a.1,(a.2.1,(a.2.2.1,((a.2.2.2.1++[b.1]),a.2.2.2.2)))).2.2.1,((a.1,(a.2.1,(a.2.2.1,((a.2.2.2.1++[b.1]),a.2.2.2.2)))).2.2.2.1,(((a.1,(a.2.1,(a.2.2.1,((a.2.2.2.1++[b.1]),a.2.2.2.2)))).2.2.2.2.1++[b.2.2.1]),(a.1,(a.2.1,(a.2.2.1,((a.2.2.2.1++[b.1]),a.2.2.2.2)))).2.2.2.2.2))))).2.2.1).set g (aP u))).map λx=>(x,((a.1,(a.2.1,(a.2.2.1,((a.2.2.2.1++[b.1]),a.2.2.2.2)))).1,((a.1,(a.2.1,(a.2.2.1,((a.2.2.2.1++[b.1]),a.2.2.2.2)))).2.1,((a.1,(a.2.1,(a.2.2.1,((a.2.2.2.1++[b.1]),a.2.2.2.2)))).2.2.1,((a.1,(a.2.1,(a.2.2.1,((a.2.2.2.1++[b.1]),a.2.2.2.2)))).2.2.2.1,(((a.1,(a.2.1,(a.2.2.1,((a.2.2.2.1++[b.1]),a.2.2.2.2)))).2.2.2.2.1++[b.2.2.1]),(a.1,(a.2.1,(a.2.2.1,((a.2.2.2.1++[b.1]),a.2.2.2.2)))).2.2.2.2.2))))).2.2.2)).map λy=>(((a.1,(a.2.1,(a.2.2.1,((a.2.2.2.1++[b.1]),a.2.2.2.2)))).1,((a.1,(a.2.1,(a.2.2.1,((a.2.2.2.1++[b.1]),a.2.2.2.2)))).2.1,((a.1,(a.2.1,(a.2.2.1,((a.2.2.2.1++[b.1]),a.2.2.2.2)))).2.2.1,((a.1,(a.2.1,(a.2.2.1,((a.2.2.2.1++[b.1]),a.2.2.2.2)))).2.2.2.1,(((a.1,(a.2.1,(a.2.2.1,((a.2.2.2.1++[b.1]),a.2.2.2.2)))).2.2.2.2.1++[b.2.2.1]),(a.1,(a.2.1,(a.2.2.1,((a.2.2.2.1++[b.1]),a.2.2.2.2)))).2.2.2.2.2))))).2.1,y)).map λz=>(((a.1,(a.2.1,(a.2.2.1,((a.2.2.2.1++[b.1]),a.2.2.2.2)))).1,((a.1,(a.2.1,(a.2.2.1,((a.2.2.2.1++[b.1]),a.2.2.2.2)))).2.1,((a.1,(a.2.1,(a.2.2.1,((a.2.2.2.1++[b.1]),a.2.2.2.2)))).2.2.1,((a.1,(a.2.1,(a.2.2.1,((a.2.2.2.1++[b.1]),a.2.2.2.2)))).2.2.2.1,(((a.1,(a.2.1,(a.2.2.1,((a.2.2.2.1++[b.1]),a.2.2.2.2)))).2.2.2.2.1++[b.2.2.1]),(a.1,(a.2.1,(a.2.2.1,((a.2.2.2.1++[b.1]),a.2.2.2.2)))).2.2.2.2.2))))).1,z)).bind λA=>
 Y (.inl (aP f,k,A,l,())) else Y (.inr (k,a,()))) (0,((0:Z),((0:Z),([],([],([],()))))),(s,(e,(bJ r (0:Z),(([]:bf),(([]:bf),()))))),i,())).bind λ(t,p,_)=>(loop (σ:=(Z×e0×e0×bt)) (ρ:=(e0×e0×bt)) (λ(d,j,c,_)=>bw (br (d<e)) (rd c.2.2.1 (aP d) λv=>rd c.2.2.1 d λw=>(bj (c.2.2.1).length (aP d)).bind λh=>((((a9 c.2.2.1 h λ_=>Y ((c.2.2.1).set h (ay (v+w)))).map λB=>(B,c.2.2.2)).map λC=>(c.2.1,C)).map λD=>(c.1,D)).bind λE=>Y (.inl (aP d,j,E,()))) (Y (.inr (j,c,())))) (0,t,p,())).bind λ(_,q,_)=>Y (q,())
def CA:nq->bv (e0×Z×bt):=λ(a,_)=>(ss (a,())).bind λ(aJ,_)=>(bw (aJ !=0) (Y (((0:Z),((0:Z),(([]:bf),(([]:bf),(([]:bf),()))))),aJ,())) ((wQ (a,())).bind λ(g,_)=>(loop (σ:=(Z×e0×kS×kS×bt)) (ρ:=(e0×kS×bt)) (λ(d,e,b,f,_)=>bw (br (d<al g)) (bB (α:=(e0×kS×kS×bt)) (rd f d λc=>bw (br (c.1>=c.2.1)) ((cD (b.length+([c]).length)).bind λ_=>Y (e,(b++[c]),f,())) (Y (e,b,f,()))) λ(k,h,l,_)=>Y (.inl (aP d,k,h,l,()))) (Y (.inr (e,b,())))) (0,((0:Z),((0:Z),([],([],([],()))))),[],g,())).bind λ(_,i,_)=>(CB (a.1,a.2.1,i,())).bind λ(j,_)=>Y (j,0,())))
def Cz:nq->bv jD:=λ(a,_)=>(ss (a,())).bind λ(aJ,_)=>(bw (aJ !=0) (Y ([],())) ((wQ (a,())).bind λ(b,_)=>Y (b,())))
def yZ:nq->bv ((bm bf×bt)×Z×bt):=λ(a,_)=>(ss (a,())).bind λ(c,_)=>(bw (c !=0) (Y ((([]:bm bf),()),c,())) (bw (a.1 !=a.2.1) (Y ((([]:bm bf),()),5,())) ((y0 (a.2.1,())).bind λ(j,_)=>(Cz (a,())).bind λ(aJ,_)=>(loop (σ:=(Z×(bm bf×bt)×bm g6×kS×bt)) (ρ:=((bm bf×bt)×bm g6×bt)) (λ(b,d,e,f,_)=>bw (br (b<al aJ)) (rd f b λg=>(y3 (e,g.1,g.2.1,())).bind λ(h,_)=>Y (.inl (aP b,d,h,f,()))) (Y (.inr (d,e,())))) (0,([],()),j,aJ,())).bind λ(_,k,_)=>(y2 (k,())).bind λ(i,_)=>Y (i,0,()))))
def w6:(e0×bf×bt)->bv (bv qO×Z×bt):=λ(a,q,_)=>(ss (a,())).bind λ(r,_)=>(bif r !=0 then Y (bo,r,()) else bif a.1 !=a.2.1 then Y (bo,5,()) else(Dx (q,a.2.1,())).bind λ(s,E,_)=>bif !E then Y (bo,90,()) else(CA (a,())).bind λ(F,_,_)=>(yZ (F,())).bind λ(G,_,_)=>(y1 (G,q,())).bind λ(t,_,_)=>(fY a.2.1 a.2.1).bind λp=>(loop (σ:=(Z×e0×qO×bt)) (ρ:=(e0×qO×bt)) (λ(j,k,c,_)=>bw (br (j<al ((a.2.1,(t,(bJ p (bo:bv (bm (Z×fL)×X)),()))).2.2.1))) ((bj (c.2.2.1).length j).bind λn=>((((a9 c.2.2.1 n λ_=>Y ((c.2.2.1).set n (Y ([],0)))).map λL=>(L,c.2.2.2)).map λM=>(c.2.1,M)).map λN=>(c.1,N)).bind λO=>Y (.inl (aP j,k,O,()))) (Y (.inr (k,c,())))) (0,a,(a.2.1,(t,(bJ p (bo:bv (bm (Z×fL)×X)),()))),())).bind λ(l,z,_)=>
 (loop (σ:=(Z×e0×qO×bt)) (ρ:=(qO×bt)) (λ(e,m,o,_)=>bif br (e<l.2.1) then(ao m.2.2.1 e).bind λI=>(loop (σ:=(Z×e0×qO×bt)) (ρ:=(e0×qO×bt)) (λ(f,d,b,_)=>(ao d.2.2.1 (aP e)).bind λJ=>bw (br (f<J)) (bB (α:=(e0×qO×bt)) ((ao d.2.2.2.1 f).bind λu=>bw (br (u>=e)) ((ao s u).bind λg=>(ao s e).bind λh=>(bj (b.2.2.1).length (if h<g then h else g)).bind λi=>(ao d.2.2.2.2.1 f).bind λK=>(jW (K,())).bind λ(H,_)=>(a9 b.2.2.1 i λx=>Y x).bind λC=>(xC C (if h>g then h else g) H).bind λD=>((((a9 b.2.2.1 i λ_=>Y ((b.2.2.1).set i D)).map λP=>(P,b.2.2.2)).map λQ=>(b.2.1,Q)).map λR=>(b.1,R)).bind λS=>Y (d,S,())) (Y (d,b,()))) λ(v,A,_)=>Y (.inl (aP f,v,A,()))) (Y (.inr (d,b,())))) (I,m,o,())).bind λ(w,B,_)=>
 Y (.inl (aP e,w,B,())) else Y (.inr (o,()))) (0,l,z,())).bind λ(y,_)=>Y (Y y,0,()))
def w5:(bv qO×Z×Z×bt)->bv he:=λ(c,a,b,_)=>c.bind λd=>(ao d.2.2.1 (if b<a then b else a)).bind λe=>Y (((mB (α:=fL) e (if b>a then b else a)).getD (bq,((bq,([],())),((0:Z),())))),())
def zl:jT->bv hu:=λ(b,c,_)=>(bif al b !=al c then Y (bq,()) else((loop (σ:=cJ) (ρ:=pJ) (λ(a,_)=>bw (br (a<al b)) ((ao b a).bind λf=>(ao c a).bind λg=>bw (f !=g) (Y (.inr (.inr (bq,())))) (Y (.inl (aP a,())))) (Y (.inr (.inl ())))) (0,())).bind λd=>match d with
 |.inl _=>(Y (bp,()))
 |.inr e=>Y e))
def su:np->bv cJ:=λ(a,b,_)=>(iC (aL a) (aL b)).bind λc=>Y (ay c,())
def uB:nm->bv cJ:=λ(b,a,_)=>bB (α:=cJ) (bw (br (al b>0)) ((su (a,al b,())).bind λ(e,_)=>(ao b e).bind λf=>Y (tA bC (aL (aL (aP a)*11400714819323198485)) f,())) (Y (aL (aL (aP a)*11400714819323198485),()))) λ(c,_)=>(eJ bC c 31).bind λd=>(eJ bC (aL (tA bC c d*13787848793156543929)) 29).bind λg=>Y (tA bC (aL (tA bC c d*13787848793156543929)) g,())
def G1:cJ->bv cJ:=λ(b,_)=>(iC b 19).bind λc=>(Dc (ay (ay c-9),0,())).bind λ(a,_)=>Y (a,())
def uA:np->bv cJ:=λ(a,e,_)=>(su (e,4,())).bind λ(b,_)=>(bw (b==1) ((eJ bC a 52).bind λf=>(h2 bC (aL (1019+ey bC f 7)) 52).bind λg=>Y (fN bC (ey bC a 9227875636482146303) g,())) (bw (b==2) ((eJ bC a 8).bind λh=>(iC h 81).bind λi=>(h2 bC (aL (983+i)) 52).bind λj=>Y (fN bC (ey bC a 9225623836668461056) j,())) (bw (b==3) ((q0 (a,())).bind λ(d,_)=>bw (!d) (Y (0,())) (Y (a,()))) ((G1 (a,())).bind λ(c,_)=>Y (c,())))))
def CT:(bf×Z×Z×Z×bt)->bv nq:=λ(n,e,g,q,_)=>(loop (σ:=(Z×e0×e0×bt)) (ρ:=(e0×e0×bt)) (λ(d,k,h,_)=>bif br (d<g) then(loop (σ:=(Z×e0×e0×bt)) (ρ:=(e0×e0×bt)) (λ(b,f,a,_)=>bif br (b<e) then bB (α:=(e0×e0×bt)) ((uB (n,ay (ay (100+ay (d*e))+b),())).bind λ(i,_)=>(eJ bC i 40).bind λr=>(iC r 3).bind λs=>bif br (s>0) then(cD ((a.2.2.2.1).length+([b]).length)).bind λ_=>(uA (i,q,())).bind λ(j,_)=>(cD (((a.1,(a.2.1,(a.2.2.1,((a.2.2.2.1++[b]),a.2.2.2.2)))).2.2.2.2.1).length+([j]).length)).bind λ_=>Y (f,((a.1,(a.2.1,(a.2.2.1,((a.2.2.2.1++[b]),a.2.2.2.2)))).1,((a.1,(a.2.1,(a.2.2.1,((a.2.2.2.1++[b]),a.2.2.2.2)))).2.1,((a.1,(a.2.1,(a.2.2.1,((a.2.2.2.1++[b]),a.2.2.2.2)))).2.2.1,((a.1,(a.2.1,(a.2.2.1,((a.2.2.2.1++[b]),a.2.2.2.2)))).2.2.2.1,(((a.1,(a.2.1,(a.2.2.1,((a.2.2.2.1++[b]),a.2.2.2.2)))).2.2.2.2.1++[j]),(a.1,(a.2.1,(a.2.2.1,((a.2.2.2.1++[b]),a.2.2.2.2)))).2.2.2.2.2))))),()) else
 Y (f,a,())) λ(o,l,_)=>Y (.inl (aP b,o,l,())) else Y (.inr (f,a,()))) (0,k,h,())).bind λ(p,c,_)=>(cD ((c.2.2.1).length+([al c.2.2.2.1]).length)).bind λ_=>Y (.inl (aP d,p,(c.1,(c.2.1,((c.2.2.1++[al c.2.2.2.1]),c.2.2.2))),())) else Y (.inr (k,h,()))) (0,((0:Z),((0:Z),([],([],([],()))))),(e,(g,([0],(([]:bf),(([]:bf),()))))),())).bind λ(_,m,_)=>Y (m,())
def Df:hm->bv hu:=λ(b,_)=>(loop (σ:=cJ) (ρ:=pJ) (λ(a,_)=>bw (br (a<al b)) ((ao b a).bind λe=>(q0 (e,())).bind λ(aJ,_)=>bw (!aJ) (Y (.inr (.inr (bq,())))) (Y (.inl (aP a,())))) (Y (.inr (.inl ())))) (0,())).bind λc=>match c with
 |.inl _=>(Y (bp,()))
 |.inr d=>Y d
def q2:nq->bv cJ:=λ(a,_)=>bB (α:=bt⊕cJ) (bw (br (a.1<0)==bq) (bw (br (a.1>200)==bq) (bw (br (a.2.1<0)==bq) (bw (br (a.2.1>200)==bq) (bw (br (al a.2.2.2.1>10000)) (Y (.inr (6,()))) (Y (.inl ()))) (Y (.inr (6,())))) (Y (.inr (6,())))) (Y (.inr (6,())))) (Y (.inr (6,())))) λb=>match b with
 |.inl _=>(bB (α:=bt⊕cJ) (bw ((al a.2.2.2.2.1 !=al a.2.2.2.1)==bq) (bw ((al a.2.2.1 !=aP a.2.1)==bq) ((ao a.2.2.1 0).bind λn=>bw ((n !=0)==bq) ((ao a.2.2.1 a.2.1).bind λo=>bw (o !=al a.2.2.2.1) (Y (.inr (1,()))) (Y (.inl ()))) (Y (.inr (1,())))) (Y (.inr (1,())))) (Y (.inr (1,())))) λb=>match b with
 |.inl _=>((loop (σ:=cJ) (ρ:=nl) (λ(f,_)=>bw (br (f<a.2.1)) ((ao a.2.2.1 f).bind λp=>(ao a.2.2.1 (aP f)).bind λq=>bw (br (p>q)) (Y (.inr (.inr (1,())))) (Y (.inl (aP f,())))) (Y (.inr (.inl ())))) (0,())).bind λb=>match b with
 |.inl _=>((loop (σ:=cJ) (ρ:=nl) (λ(e,_)=>bif br (e<a.2.1) then((ao a.2.2.1 e).bind λr=>(loop (σ:=cJ) (ρ:=(bt⊕(cJ⊕nl))) (λ(d,_)=>(ao a.2.2.1 (aP e)).bind λh=>bif br (d<h) then(bB (α:=bt⊕(cJ⊕(bt⊕(cJ⊕nl)))) ((ao a.2.2.2.1 d).bind λi=>bw (br (i<0)==bq) ((ao a.2.2.2.1 d).bind λj=>bw (br (j>=a.1)==bq) ((ao a.2.2.1 e).bind λk=>bw (br (d>k)==bp) ((ao a.2.2.2.1 d).bind λl=>(ao a.2.2.2.1 (ay (d-1))).bind λm=>bw (br (l<=m)) (Y (.inr (.inr (.inr (.inr (.inr (1,()))))))) (Y (.inl ()))) (Y (.inl ()))) (Y (.inr (.inr (.inr (.inr (.inr (1,())))))))) (Y (.inr (.inr (.inr (.inr (.inr (1,())))))))) λb=>match b with
 |.inl _=>(Y (.inl (aP d,())))
 |.inr c=>Y c) else Y (.inr (.inl ()))) (r,())).bind λb=>match b with
 |.inl _=>(Y (.inl (aP e,())))
 |.inr c=>Y c) else Y (.inr (.inl ()))) (0,())).bind λb=>match b with
 |.inl _=>((Df (a.2.2.2.2.1,())).bind λ(g,_)=>bw (!g) (Y (4,())) (Y (0,())))
 |.inr c=>Y c)
 |.inr c=>Y c)
 |.inr c=>Y c)
 |.inr c=>Y c
def Dg:(e0×Z×Z×bt)->bv cJ:=λ(a,f,b,_)=>bB (α:=bt⊕cJ) ((q2 (a,())).bind λ(aJ,_)=>bw ((aJ !=0)==bq) (bw (br (b<0)==bq) (bw (br (b>=a.2.1)) (Y (.inr (0,()))) (Y (.inl ()))) (Y (.inr (0,())))) (Y (.inr (0,())))) λd=>match d with
 |.inl _=>((ao a.2.2.1 b).bind λg=>(loop (σ:=cJ) (ρ:=nl) (λ(c,_)=>(ao a.2.2.1 (aP b)).bind λh=>bw (br (c<h)) ((ao a.2.2.2.1 c).bind λi=>bw (i==f) ((ao a.2.2.2.2.1 c).bind λj=>Y (.inr (.inr (j,())))) (Y (.inl (aP c,())))) (Y (.inr (.inl ())))) (g,())).bind λd=>match d with
 |.inl _=>(Y (0,()))
 |.inr e=>Y e)
 |.inr e=>Y e
def CU:nm->bv hm:=λ(m,j,_)=>(loop (σ:=nm) (ρ:=hm) (λ(a,c,_)=>bw (br (c<j)) ((uB (m,ay (700+c),())).bind λ(l,_)=>(eJ bC l 1).bind λn=>(su (ay n,aP c,())).bind λ(i,_)=>((Y (0)).bind λg=>(gv i).bind λh=>(g9 g h a.length).map λ_=>(g,h)).bind λb=>(cD (([]:bf).length+((a.take b.2).drop b.1).length)).bind λ_=>(cD (([]++((a.take b.2).drop b.1)).length+([c]).length)).bind λ_=>((gv i).bind λe=>(Y a.length).bind λf=>(g9 e f a.length).map λ_=>(e,f)).bind λd=>(cD ((([]++((a.take b.2).drop b.1))++[c]).length+((a.take d.2).drop d.1).length)).bind λ_=>Y (.inl (((([]++((a.take b.2).drop b.1))++[c])++((a.take d.2).drop d.1)),aP c,()))) (Y (.inr (a,())))) ([],0,())).bind λ(k,_)=>Y (k,())
def Dp:nm->bv hu:=λ(b,c,_)=>(bif al b !=c then Y (bq,()) else((fY c c).bind λg=>(loop (σ:=(Z×g6×bt)) (ρ:=pJ) (λ(a,f,_)=>bif br (a<c) then(bB (α:=(g6×bt)⊕((Z×g6×bt)⊕pJ)) (bB (α:=(g6×bt)⊕((g6×bt)⊕((Z×g6×bt)⊕pJ))) ((ao b a).bind λl=>bw (br (l<0)==bq) ((ao b a).bind λm=>bw (br (m>=c)==bq) ((ao b a).bind λn=>rd f n λj=>bw j (Y (.inr (.inr (.inr (.inr (bq,())))))) (Y (.inl (f,())))) (Y (.inr (.inr (.inr (.inr (bq,()))))))) (Y (.inr (.inr (.inr (.inr (bq,()))))))) λd=>match d with
 |.inl (h,_)=>((ao b a).bind λk=>wr h k bp λo=>Y (.inl (o,())))
 |.inr e=>Y e) λd=>match d with
 |.inl (i,_)=>(Y (.inl (aP a,i,())))
 |.inr e=>Y e) else Y (.inr (.inl ()))) (0,bJ g bq,())).bind λd=>match d with
 |.inl _=>(Y (bp,()))
 |.inr e=>Y e))
def Dq:(e0×bf×bt)->bv cJ:=λ(a,c,_)=>(q2 (a,())).bind λ(b,_)=>(bw (b !=0) (Y (b,())) (bw (a.1 !=a.2.1) (Y (5,())) ((Dp (c,a.1,())).bind λ(aJ,_)=>bw (!aJ) (Y (90,())) (Y (0,())))))
def zv:nq->bv jD:=λ(b,_)=>(q2 (b,())).bind λ(j,_)=>(bw (j !=0) (Y ([],())) ((loop (σ:=n5) (ρ:=jD) (λ(a,e,_)=>bw (br (a<b.2.1)) ((ao b.2.2.1 a).bind λk=>(loop (σ:=n5) (ρ:=jD) (λ(c,d,_)=>(ao b.2.2.1 (aP a)).bind λl=>bw (br (c<l)) ((ao b.2.2.2.1 c).bind λf=>(ao b.2.2.2.2.1 c).bind λg=>(cD (d.length+([(f,(a,(g,())))]).length)).bind λ_=>Y (.inl (aP c,(d++[(f,(a,(g,())))]),()))) (Y (.inr (d,())))) (k,e,())).bind λ(h,_)=>Y (.inl (aP a,h,()))) (Y (.inr (e,())))) (0,[],())).bind λ(i,_)=>Y (i,())))
def Dh:yz->bv nq:=λ(d,g,h,_)=>(fY (ay (d*g)) (ay (d*g))).bind λy=>(loop (σ:=(Z×e0×e0×bf×bt)) (ρ:=(e0×e0×bf×bt)) (λ(e,o,m,k,_)=>bw (br (e<al h)) ((ao h e).bind λD=>(ao h e).bind λC=>wr k (ay (ay (D.2.1*d)+C.1)) (aP e) λE=>Y (.inl (aP e,o,m,E,()))) (Y (.inr (o,m,k,())))) (0,((0:Z),((0:Z),([],([],([],()))))),(d,(g,([0],(([]:bf),(([]:bf),()))))),bJ y (0:Z),())).bind λ(z,v,r,_)=>(loop (σ:=(Z×e0×e0×bf×bt)) (ρ:=(e0×e0×bt)) (λ(i,n,l,s,_)=>bif br (i<g) then(loop (σ:=(Z×e0×e0×bf×bt)) (ρ:=(e0×e0×bf×bt)) (λ(b,j,a,f,_)=>bif br (b<d) then bB (α:=(e0×e0×bf×bt)) (rd f (ay (ay (i*d)+b)) λp=>bif br (p>0) then(cD ((a.2.2.2.1).length+([b]).length)).bind λ_=>(ao h (ay (p-1))).bind λq=>
 (cD (((a.1,(a.2.1,(a.2.2.1,((a.2.2.2.1++[b]),a.2.2.2.2)))).2.2.2.2.1).length+([q.2.2.1]).length)).bind λ_=>Y (j,((a.1,(a.2.1,(a.2.2.1,((a.2.2.2.1++[b]),a.2.2.2.2)))).1,((a.1,(a.2.1,(a.2.2.1,((a.2.2.2.1++[b]),a.2.2.2.2)))).2.1,((a.1,(a.2.1,(a.2.2.1,((a.2.2.2.1++[b]),a.2.2.2.2)))).2.2.1,((a.1,(a.2.1,(a.2.2.1,((a.2.2.2.1++[b]),a.2.2.2.2)))).2.2.2.1,(((a.1,(a.2.1,(a.2.2.1,((a.2.2.2.1++[b]),a.2.2.2.2)))).2.2.2.2.1++[q.2.2.1]),(a.1,(a.2.1,(a.2.2.1,((a.2.2.2.1++[b]),a.2.2.2.2)))).2.2.2.2.2))))),f,()) else Y (j,a,f,())) λ(A,w,t,_)=>Y (.inl (aP b,A,w,t,())) else Y (.inr (j,a,f,()))) (0,n,l,s,())).bind λ(B,c,u,_)=>(cD ((c.2.2.1).length+([al c.2.2.2.1]).length)).bind λ_=>Y (.inl (aP i,B,(c.1,(c.2.1,((c.2.2.1++[al c.2.2.2.1]),c.2.2.2))),u,())) else Y (.inr (n,l,()))) (0,z,v,r,())).bind λ(_,x,_)=>
 Y (x,())
def sB:nq->bv (e0×Z×bt):=λ(b,_)=>(q2 (b,())).bind λ(aJ,_)=>(bw (aJ !=0) (Y (((0:Z),((0:Z),(([]:bf),(([]:bf),(([]:bf),()))))),aJ,())) ((zv (b,())).bind λ(d,_)=>(loop (σ:=(Z×e0×kS×bt)) (ρ:=(e0×kS×bt)) (λ(a,e,c,_)=>bw (br (a<al d)) (bB (α:=(e0×kS×bt)) ((ao d a).bind λl=>(ao d a).bind λk=>bw (br (l.1>=k.2.1)) ((ao d a).bind λf=>(cD (c.length+([f]).length)).bind λ_=>Y (e,(c++[f]),())) (Y (e,c,()))) λ(j,g,_)=>Y (.inl (aP a,j,g,()))) (Y (.inr (e,c,())))) (0,((0:Z),((0:Z),([],([],([],()))))),[],())).bind λ(_,h,_)=>(Dh (b.1,b.2.1,h,())).bind λ(i,_)=>Y (i,0,())))
def sC:nq->bv ((bm bf×bt)×Z×bt):=λ(a,_)=>(q2 (a,())).bind λ(g,_)=>(bw (g !=0) (Y ((([]:bm bf),()),g,())) (bw (a.1 !=a.2.1) (Y ((([]:bm bf),()),5,())) ((zy (a.1,())).bind λ(l,_)=>(zv (a,())).bind λ(aJ,_)=>(loop (σ:=(Z×(bm bf×bt)×bm g6×bt)) (ρ:=((bm bf×bt)×bm g6×bt)) (λ(c,h,b,_)=>bw (br (c<al aJ)) ((ao aJ c).bind λo=>(bj b.length o.1).bind λd=>(ao aJ c).bind λn=>((a9 b d λi=>Y i).bind λj=>bj j.length n.2.1).bind λf=>(a9 b d λe=>(a9 e f λ_=>Y (e.set f bp)).map λp=>b.set d p).bind λq=>Y (.inl (aP c,h,q,()))) (Y (.inr (h,b,())))) (0,([],()),l,())).bind λ(_,m,_)=>(zw (m,())).bind λ(k,_)=>Y (k,0,()))))
def Do:(e0×bf×bt)->bv ((bm bf×bt)×bt):=λ(a,b,_)=>(sB (a,())).bind λ(c,_,_)=>(sC (c,())).bind λ(d,_,_)=>(q3 (d,b,())).bind λ(e,_,_)=>Y (e,())
def wZ:(e0×bf×Z×Z×bt)->bv he:=λ(d,c,e,f,_)=>(ao c e).bind λa=>(ao c f).bind λb=>(Dg (d,(if b>a then b else a),(if b<a then b else a),())).bind λ(g,_)=>(kU (g,())).bind λ(h,_)=>Y (h,())
def zE:np->bv he:=λ(a,b,_)=>(kU (a,())).bind λ(c,_)=>(kU (b,())).bind λ(aJ,_)=>(kb (c,aJ,())).bind λ(d,_)=>Y (d,())
def Dm:cJ->bv hu:=λ(a,_)=>(bw ((a==0)==bq) (Y ((a==9223372036854775808),())) (Y (bp,())))
def wY:ly->bv cJ:=λ(a,b,_)=>(De (a,b,0,())).bind λ(c,_)=>Y (c,())
def zD:ly->bv hu:=λ(a,b,_)=>(C6 (a,b,())).bind λ(c,_,_)=>Y (br (c<0),())
def zj:(e0×bf×bf×bt)->bv (jC×bt):=λ(O,fl,ft,_)=>(sB (O,())).bind λ(aJ,_,_)=>(sC (aJ,())).bind λ(fp,_,_)=>(q3 (fp,fl,())).bind λ(fs,_,_)=>(zB (fs,())).bind λ(h,_,_)=>(loop (σ:=(Z×jC×bm g6×bt)) (ρ:=j7) (λ(b,y,s,_)=>bif br (b<al h) then bB (α:=j7) (bB (α:=j7) (bB (α:=(bA×jC×bm g6×bt)) (bw ((b==0)==bq) ((uB (ft,ay (900+b),())).bind λ(fn,_)=>(eJ bC fn 7).bind λf5=>(iC f5 3).bind λf6=>Y (br (f6>0),y,s,())) (Y (bp,y,s,()))) λ(fz,z,t,_)=>bif fz then(cD (z.length+([(b,(aP b,(([]:bf),((-1:Z),()))))]).length)).bind λ_=>(fY (al h) (al h)).bind λN=>(cD (t.length+([bJ N bq]).length)).bind λ_=>Y ((z++[(b,(aP b,(([]:bf),((-1:Z),()))))]),(t++[bJ N bq]),()) else
 Y (z,t,())) λ(m,co,_)=>(bj m.length (ay (al m-1))).bind λG=>(a9 m G λB=>Y (m.set G (B.1,(aP b,B.2.2)))).bind λhc=>(loop (σ:=(Z×jC×bm g6×bt)) (ρ:=j7) (λ(x,L,l,_)=>(ao h b).bind λf7=>bw (br (x<al f7)) ((bj l.length (ay (al m-1))).bind λw=>(ao h b).bind λf8=>(ao f8 x).bind λf9=>((a9 l w λT=>Y T).bind λU=>bj U.length f9).bind λH=>(a9 l w λC=>(a9 C H λ_=>Y (C.set H bp)).map λhi=>l.set w hi).bind λhr=>Y (.inl (aP x,L,hr,()))) (Y (.inr (L,l,())))) (0,hc,co,())).bind λ(el,cs,_)=>Y (el,cs,())) λ(em,cv,_)=>Y (.inl (aP b,em,cv,())) else Y (.inr (y,s,()))) (0,[],[],())).bind λ(eq,c1,_)=>(loop (σ:=(Z×jC×bm g6×bt)) (ρ:=(jC×bt)) (λ(a,n,c2,_)=>bif br (a<al n) then(bj n.length a).bind λd1=>
 (a9 n d1 λV=>Y V.1).bind λgc=>(loop (σ:=(Z×jC×bm g6×bt)) (ρ:=j7) (λ(c,d,f,_)=>bif br (c<al h) then bB (α:=j7) ((bj f.length a).bind λI=>((a9 f I λad=>Y ad).bind λam=>bj am.length c).bind λd2=>(a9 f I λan=>a9 an d2 λap=>Y ap).bind λge=>bif !ge then Y (d,f,()) else(bj d.length a).bind λJ=>(a9 d J λav=>Y av.2.2.1).bind λf1=>(cD (f1.length+([c]).length)).bind λ_=>(bj d.length a).bind λp=>bif bH J p&&bp then(a9 d p λa0=>Y a0.2.2.1).bind λf2=>(a9 d p λr=>Y (d.set p (r.1,(r.2.1,((f2++[c]),r.2.2.2))))).bind λi=>bB (α:=j7) (bB (α:=(bA×jC×bm g6×bt)) ((bj i.length a).bind λd3=>(a9 i d3 λa3=>Y a3.2.1).bind λgf=>bif br (c>=gf)==bp then(bj i.length a).bind λd4=>(a9 i d4 λa4=>Y a4.2.2.2.1).bind λgi=>
 Y (br (gi<0),i,f,()) else Y (bq,i,f,())) λ(fT,M,D,_)=>bw fT ((loop (σ:=(Z×jC×bm g6×bt)) (ρ:=j7) (λ(j,e,u,_)=>bw (br (j<al e)) (bB (α:=j7) (bB (α:=(bA×jC×bm g6×bt)) ((bj e.length j).bind λd5=>(a9 e d5 λbl=>Y bl.1).bind λgl=>bw (br (c>=gl)==bp) ((bj e.length j).bind λd6=>(a9 e d6 λbs=>Y bs.2.1).bind λgo=>Y (br (c<go),e,u,())) (Y (bq,e,u,()))) λ(f0,q,E,_)=>bw f0 ((bj q.length a).bind λK=>(a9 q K λo=>Y (q.set K (o.1,(o.2.1,(o.2.2.1,(j,o.2.2.2.2)))))).bind λhs=>Y (hs,E,())) (Y (q,E,()))) λ(ex,dl,_)=>Y (.inl (aP j,ex,dl,()))) (Y (.inr (e,u,())))) (aP a,M,D,())).bind λ(d7,bx,_)=>Y (d7,bx,())) (Y (M,D,()))) λ(g,k,_)=>(bj g.length a).bind λds=>
 (a9 g ds λP=>Y P.2.1).bind λf3=>bw (br (c>=f3)) ((bj g.length a).bind λd0=>(a9 g d0 λQ=>Y Q.2.2.2.1).bind λf4=>(bj k.length f4).bind λv=>((a9 k v λR=>Y R).bind λS=>bj S.length c).bind λF=>(a9 k v λA=>(a9 A F λ_=>Y (A.set F bp)).map λgs=>k.set v gs).bind λgt=>Y (g,gt,())) (Y (g,k,())) else bo) λ(d8,ce,_)=>Y (.inl (aP c,d8,ce,())) else Y (.inr (d,f,()))) (gc,n,c2,())).bind λ(d9,ci,_)=>Y (.inl (aP a,d9,ci,())) else Y (.inr (n,()))) (0,eq,c1,())).bind λ(ek,_)=>Y (ek,())
def zg:nm->bv cJ:=λ(b,e,_)=>(loop (σ:=cJ) (ρ:=nl) (λ(a,_)=>bw (br (a<al b)) ((ao b a).bind λf=>bw (e==f) (Y (.inr (.inr (a,())))) (Y (.inl (aP a,())))) (Y (.inr (.inl ())))) (0,())).bind λc=>match c with
 |.inl _=>(Y ((-1:Z),()))
 |.inr d=>Y d
def Dn:(e0×bf×jC×bt)->bv cJ:=λ(c,d,b,_)=>(Dq (c,d,())).bind λ(aJ,_)=>(bif aJ !=0 then Y (aJ,()) else(Do (c,d,())).bind λ(h,_)=>(wX (h,b,())).bind λ(e,_)=>bif e !=0 then Y (e,()) else((loop (σ:=cJ) (ρ:=nl) (λ(a,_)=>bw (br (a<al b)) ((ao b a).bind λi=>bw (br (al i.2.2.1>64)) (Y (.inr (.inr (6,())))) (Y (.inl (aP a,())))) (Y (.inr (.inl ())))) (0,())).bind λf=>match f with
 |.inl _=>(Y (0,()))
 |.inr g=>Y g))
abbrev aA:Type:=ahZ
abbrev jB:Type:=(aA×bt)
abbrev KT:Type:=(bA×jB)
abbrev eV:Type:=eo
abbrev cV:Type:=(bA×(KT×eV))
abbrev gh:Type:=(bm cV)
abbrev e1:Type:=(bm gh)
abbrev de:Type:=(aA×(Z×(e1×bt)))
abbrev eG:Type:=(aA×(aA×(aA×(aA×(aA×(aA×eV))))))
abbrev fE:Type:=ahV
abbrev c4:Type:=(aA×(Z×(fE×(e1×bt))))
abbrev hd:Type:=(aA×(aA×(aA×(bm aA×bt))))
abbrev we:Type:=ej
abbrev oS:Type:=(Z×(Z×eV))
abbrev kv:Type:=en
abbrev eE:Type:=(aA×jB)
abbrev nj:Type:=(de×hd×de×hd×bt)
abbrev qK:Type:=(Z×de×hd×de×hd×bt)
abbrev nk:Type:=(de×de×bt)
abbrev qL:Type:=(Z×(Z×(aA×eV)))
abbrev qM:Type:=(Z×eG×aA×eG×aA×aA×bt)
abbrev pI:Type:=(eV⊕(bt⊕(eV⊕(bt⊕kv))))
abbrev lZ:Type:=(Z×(Z×(aA×eE)))
abbrev wg:Type:=(Z×eG×aA×eG×bt)
def Ct:(qL×bm (bv c4)×bt)->bv (aA×Z×bt):=λ(a,j,_)=>(loop (σ:=(Z×aA×bt)) (ρ:=jB) (λ(h,m,_)=>bw (br (h<al j)) ((ao j h).bind λi=>i.bind λt=>(loop (σ:=(Z×aA×bt)) (ρ:=jB) (λ(e,d,_)=>bw (br (e<t.2.1)) (bB (α:=jB) (i.bind λu=>(ao u.2.2.1 e).bind λr=>bw r (i.bind λs=>(ao s.1 e).bind λn=>(cD (d.length+([n]).length)).bind λ_=>Y ((d++[n]),())) (Y (d,()))) λ(o,_)=>Y (.inl (aP e,o,()))) (Y (.inr (d,())))) (0,m,())).bind λ(p,_)=>Y (.inl (aP h,p,()))) (Y (.inr (m,())))) (0,[],())).bind λ(q,_)=>(loop (σ:=(Z×aA×bt)) (ρ:=jB) (λ(b,f,_)=>bw (br (b<a.2.1)) ((cD (f.length+([b]).length)).bind λ_=>Y (.inl (aP b,(f++[b]),()))) (Y (.inr (f,())))) (a.1,q,())).bind λ(g,_)=>
 ((gv (ay (a.2.1-a.1))).bind λk=>(Y ((a.2.2.1).length)).bind λl=>(g9 k l (a.2.2.1).length).map λ_=>(k,l)).bind λc=>(cD (g.length+(((a.2.2.1).take c.2).drop c.1).length)).bind λ_=>Y ((g++(((a.2.2.1).take c.2).drop c.1)),al g,())
def Ck:(c4×bv c4×bt)->bv (c4×bt):=λ(H,c,_)=>c.bind λr=>(fY (al r.1) (al r.1)).bind λD=>c.bind λs=>(loop (σ:=(Z×c4×aA×bt)) (ρ:=(c4×aA×bt)) (λ(f,g,i,_)=>bw (br (f<al s.1)) (bB (α:=(c4×aA×bt)) ((ao s.1 f).bind λa0=>c.bind λN=>(ao N.2.2.1 f).bind λO=>bw O ((zg (g.1,a0,())).bind λ(E,_)=>wr i f E λa3=>Y (g,a3,())) (Y (g,i,()))) λ(I,t,_)=>Y (.inl (aP f,I,t,()))) (Y (.inr (g,i,())))) (0,H,bJ D (0:Z),())).bind λ(J,l,_)=>(loop (σ:=(Z×c4×aA×bt)) (ρ:=(c4×bt)) (λ(d,q,m,_)=>bif br (d<al l) then(loop (σ:=(Z×c4×aA×bt)) (ρ:=(c4×aA×bt)) (λ(e,k,h,_)=>bif br (e<al m) then bB (α:=(c4×aA×bt)) (bB (α:=(bA×c4×aA×bt)) (c.bind λP=>(ao P.2.2.1 d).bind λQ=>bif Q==bp then c.bind λR=>
 (ao R.2.2.1 e).bind λS=>Y (S,k,h,()) else Y (bq,k,h,())) λ(G,a,b,_)=>bw G (rd b d λT=>(bj (a.2.2.2.1).length T).bind λj=>rd b e λU=>rd b d λV=>(bj (a.2.2.2.1).length V).bind λo=>rd b e λad=>((a9 a.2.2.2.1 o λw=>Y w).bind λx=>bj x.length ad).bind λC=>(a9 a.2.2.2.1 o λy=>a9 y C λz=>Y z).bind λam=>c.bind λan=>(ao an.2.2.2.1 d).bind λap=>(ao ap e).bind λav=>(yR (am,av,())).bind λ(F,_)=>((a9 a.2.2.2.1 j λA=>Y A).bind λB=>bj B.length U).bind λp=>(((((a9 a.2.2.2.1 j λn=>(a9 n p λ_=>Y (n.set p F)).map λa4=>(a.2.2.2.1).set j a4).map λbl=>(bl,a.2.2.2.2)).map λbs=>(a.2.2.1,bs)).map λbx=>(a.2.1,bx)).map λce=>(a.1,ce)).bind λci=>Y (ci,b,())) (Y (a,b,()))) λ(K,u,_)=>Y (.inl (aP e,K,u,())) else
 Y (.inr (k,h,()))) (0,q,m,())).bind λ(L,v,_)=>Y (.inl (aP d,L,v,())) else Y (.inr (q,()))) (0,J,l,())).bind λ(M,_)=>Y (M,())
def Ci:(bv (Z×((bm aA×bt)×(bm (bv (bm (Z×cV)×X))×bt)))×qL×bm (bv c4)×bt)->bv (c4×Z×bt):=λ(y,m,l,_)=>(Ct (m,l,())).bind λ(aJ,a,_)=>(bif br (al (((aJ,(([]:aA),((0:Z),(([]:fE),(([]:e1),())))).2).1,(a,(aJ,(([]:aA),((0:Z),(([]:fE),(([]:e1),())))).2).2.2)).1)>64) then bo else(fY (al (((aJ,(([]:aA),((0:Z),(([]:fE),(([]:e1),())))).2).1,(a,(aJ,(([]:aA),((0:Z),(([]:fE),(([]:e1),())))).2).2.2)).1)) (al (((aJ,(([]:aA),((0:Z),(([]:fE),(([]:e1),())))).2).1,(a,(aJ,(([]:aA),((0:Z),(([]:fE),(([]:e1),())))).2).2.2)).1))).bind λh=>(fY (al (((aJ,(([]:aA),((0:Z),(([]:fE),(([]:e1),())))).2).1,(a,(aJ,(([]:aA),((0:Z),(([]:fE),(([]:e1),())))).2).2.2)).1)) (al (((aJ,(([]:aA),((0:Z),(([]:fE),(([]:e1),())))).2).1,(a,(aJ,(([]:aA),((0:Z),(([]:fE),(([]:e1),())))).2).2.2)).1))).bind λA=>(loop (σ:=(Z×c4×bt)) (ρ:=(c4×bt)) (λ(i,c,_)=>
 bw (br (i<al (((aJ,(([]:aA),((0:Z),(([]:fE),(([]:e1),())))).2).1,(a,(aJ,(([]:aA),((0:Z),(([]:fE),(([]:e1),())))).2).2.2)).1))) ((fY (al (((aJ,(([]:aA),((0:Z),(([]:fE),(([]:e1),())))).2).1,(a,(aJ,(([]:aA),((0:Z),(([]:fE),(([]:e1),())))).2).2.2)).1)) (al (((aJ,(([]:aA),((0:Z),(([]:fE),(([]:e1),())))).2).1,(a,(aJ,(([]:aA),((0:Z),(([]:fE),(([]:e1),())))).2).2.2)).1))).bind λz=>(bj (c.2.2.1).length i).bind λq=>((((a9 c.2.2.1 q λ_=>Y ((c.2.2.1).set q bp)).map λL=>(L,c.2.2.2)).map λM=>(c.2.1,M)).map λN=>(c.1,N)).bind λd=>(bj (d.2.2.2.1).length i).bind λr=>(((((a9 d.2.2.2.1 r λ_=>Y ((d.2.2.2.1).set r (bJ z (bq,((bq,(([]:ahZ),())),((0:Z),())))))).map λO=>(O,d.2.2.2.2)).map λP=>(d.2.2.1,P)).map λQ=>(d.2.1,Q)).map λR=>(d.1,R)).bind λS=>Y (.inl (aP i,S,()))) (Y (.inr (c,())))) (0,((((aJ,(([]:aA),((0:Z),(([]:fE),(([]:e1),())))).2).1,(a,(aJ,(([]:aA),((0:Z),(([]:fE),(([]:e1),())))).2).2.2)).1,(((aJ,(([]:aA),((0:Z),(([]:fE),(([]:e1),())))).2).1,(a,(aJ,(([]:aA),((0:Z),(([]:fE),(([]:e1),())))).2).2.2)).2.1,(bJ h bq,((aJ,(([]:aA),((0:Z),(([]:fE),(([]:e1),())))).2).1,(a,(aJ,(([]:aA),((0:Z),(([]:fE),(([]:e1),())))).2).2.2)).2.2.2))).1,((((aJ,(([]:aA),((0:Z),(([]:fE),(([]:e1),())))).2).1,(a,(aJ,(([]:aA),((0:Z),(([]:fE),(([]:e1),())))).2).2.2)).1,(((aJ,(([]:aA),((0:Z),(([]:fE),(([]:e1),())))).2).1,(a,(aJ,(([]:aA),((0:Z),(([]:fE),(([]:e1),())))).2).2.2)).2.1,(bJ h bq,((aJ,(([]:aA),((0:Z),(([]:fE),(([]:e1),())))).2).1,(a,(aJ,(([]:aA),((0:Z),(([]:fE),(([]:e1),())))).2).2.2)).2.2.2))).2.1,((((aJ,(([]:aA),((0:Z),(([]:fE),(([]:e1),())))).2).1,(a,(aJ,(([]:aA),((0:Z),(([]:fE),(([]:e1),())))).2).2.2)).1,(((aJ,(([]:aA),((0:Z),(([]:fE),(([]:e1),())))).2).1,(a,(aJ,(([]:aA),((0:Z),(([]:fE),(([]:e1),())))).2).2.2)).2.1,(bJ h bq,((aJ,(([]:aA),((0:Z),(([]:fE),(([]:e1),())))).2).1,(a,(aJ,(([]:aA),((0:Z),(([]:fE),(([]:e1),())))).2).2.2)).2.2.2))).2.2.1,(bJ A [],(((aJ,(([]:aA),((0:Z),(([]:fE),(([]:e1),())))).2).1,(a,(aJ,(([]:aA),((0:Z),(([]:fE),(([]:e1),())))).2).2.2)).1,(((aJ,(([]:aA),((0:Z),(([]:fE),(([]:e1),())))).2).1,(a,(aJ,(([]:aA),((0:Z),(([]:fE),(([]:e1),())))).2).2.2)).2.1,(bJ h bq,((aJ,(([]:aA),((0:Z),(([]:fE),(([]:e1),())))).2).1,(a,(aJ,(([]:aA),((0:Z),(([]:fE),(([]:e1),())))).2).2.2)).2.2.2))).2.2.2.2)))),())).bind λ(D,_)=>
 (loop (σ:=(Z×c4×bt)) (ρ:=(c4×bt)) (λ(e,t,_)=>bif br (e<al (((aJ,(([]:aA),((0:Z),(([]:fE),(([]:e1),())))).2).1,(a,(aJ,(([]:aA),((0:Z),(([]:fE),(([]:e1),())))).2).2.2)).1)) then(loop (σ:=(Z×c4×bt)) (ρ:=(c4×bt)) (λ(f,g,_)=>bif br (f<al (((aJ,(([]:aA),((0:Z),(([]:fE),(([]:e1),())))).2).1,(a,(aJ,(([]:aA),((0:Z),(([]:fE),(([]:e1),())))).2).2.2)).1)) then bB (α:=(c4×bt)) (rd g.1 e λj=>rd g.1 f λk=>bB (α:=(bA×c4×bt)) (bw (br ((if k<j then k else j)>=m.1)==bp) (Y (br ((if k<j then k else j)<m.2.1),g,())) (Y (bq,g,()))) λ(C,b,_)=>bif C then(bj (b.2.2.2.1).length e).bind λn=>rd b.1 e λI=>rd b.1 f λJ=>(w5 (y,I,J,())).bind λ(B,_)=>((a9 b.2.2.2.1 n λv=>Y v).bind λw=>bj w.length f).bind λs=>(((((a9 b.2.2.2.1 n λp=>(a9 p s λ_=>Y (p.set s B)).map λT=>(b.2.2.2.1).set n T).map λU=>(U,b.2.2.2.2)).map λV=>(b.2.2.1,V)).map λad=>(b.2.1,ad)).map λam=>(b.1,am)).bind λan=>
 Y (an,()) else Y (b,())) λ(E,_)=>Y (.inl (aP f,E,())) else Y (.inr (g,()))) (0,t,())).bind λ(F,_)=>Y (.inl (aP e,F,())) else Y (.inr (t,()))) (0,D,())).bind λ(G,_)=>(loop (σ:=(Z×c4×bt)) (ρ:=(c4×bt)) (λ(o,u,_)=>bw (br (o<al l)) ((ao l o).bind λK=>(Ck (u,K,())).bind λ(x,_)=>Y (.inl (aP o,x,()))) (Y (.inr (u,())))) (0,G,())).bind λ(H,_)=>Y (H,0,()))
def GI:(cV×bt)->bv ((bA×(KT×(Z×kv)))×bt):=λ(a,_)=>(ur (a.2.1,())).bind λ(b,_)=>Y ((a.2.1.1,(b,(a.2.2.1,(bq,())))),())
def BX:(cV×Z×bt)->bv eV:=λ(b,c,_)=>(wC (b,())).bind λ(a,_)=>(bw a.1 (Y (9221120237041090560,())) ((mT (a,())).bind λ(aJ,_)=>bw (aJ==0) (Y (0,())) ((GI (a,())).bind λ(d,_)=>(yX (d,c,())).bind λ(e,_)=>Y (e,()))))
def sr:(bv c4×Z×Z×bt)->bv eV:=λ(d,a,b,_)=>d.bind λe=>(ao e.2.2.2.1 a).bind λf=>(ao f b).bind λg=>(BX (g,0,())).bind λ(c,_)=>Y (c,())
def BY:jB->bv kv:=λ(b,_)=>(loop (σ:=eV) (ρ:=(bt⊕kv)) (λ(a,_)=>bw (br (a<al b)) ((ao b a).bind λe=>(BW (e,())).bind λ(aJ,_)=>bw (aJ==3) (Y (.inr (.inr (bp,())))) (Y (.inl (aP a,())))) (Y (.inr (.inl ())))) (0,())).bind λc=>match c with
 |.inl _=>(Y (bq,()))
 |.inr d=>Y d
def wF:eV->bv eV:=λ(a,_)=>(BY ([a],())).bind λ(b,_)=>(bw b (Y (9221120237041090560,())) (Y (By bC a 9223372036854775808,())))
def zd:(bv c4×Z×bt)->bv (cV×Z×Z×bt):=λ(h,i,_)=>(qV (0,())).bind λ(t,_)=>h.bind λz=>(loop (σ:=(Z×Z×cV×cV×bt)) (ρ:=((Z×cV×cV×bt)⊕(cV×Z×Z×bt))) (λ(b,c,d,a,_)=>bif br (c<al z.1) then(bB (α:=(Z×cV×cV×bt)⊕((Z×Z×cV×cV×bt)⊕((Z×cV×cV×bt)⊕(cV×Z×Z×bt)))) (h.bind λA=>(ao A.2.2.1 c).bind λy=>bif !y then Y (.inl (b,d,a,())) else(sr (h,c,i,())).bind λ(g,_)=>(ny (g,())).bind λ(n,_)=>bif !n then Y (.inr (.inr (.inr (a,b,233,())))) else bif c==i then Y (.inl (b,d,a,())) else(wF (g,())).bind λ(o,_)=>(jW (o,())).bind λ(p,_)=>(yS (p,a,())).bind λ(q,_,_)=>bB (α:=(bA×cV×cV×bt)) (bw (br (q>0)==bq) (Y (br (b<0),d,a,())) (Y (bp,d,a,()))) λ(w,j,k,_)=>
 bw w ((wF (g,())).bind λ(r,_)=>(jW (r,())).bind λ(s,_)=>Y (.inl (c,j,s,()))) (Y (.inl (b,j,k,())))) λe=>match e with
 |.inl (u,x,l,_)=>(Y (.inl (u,aP c,x,l,())))
 |.inr f=>Y f) else Y (.inr (.inl (b,d,a,())))) ((-1:Z),0,(bq,((bq,(([]:ahZ),())),((0:Z),()))),t,())).bind λe=>match e with
 |.inl (v,_,m,_)=>(Y (m,v,0,()))
 |.inr f=>Y f
def za:(bv c4×Z×bt)->bv (cV×bt):=λ(d,a,_)=>(sr (d,a,a,())).bind λ(b,_)=>(wF (b,())).bind λ(aJ,_)=>(jW (aJ,())).bind λ(c,_)=>Y (c,())
def wN:(cV×cV×bt)->bv kv:=λ(a,b,_)=>(qV (64,())).bind λ(c,_)=>(nw (c,a,())).bind λ(aJ,_)=>(qV (41,())).bind λ(d,_)=>(nw (d,b,())).bind λ(e,_)=>(yS (aJ,e,())).bind λ(f,_,_)=>Y (br (f>=0),())
def Cl:(bv c4×bt)->bv (aA×Z×bt):=λ(b,_)=>b.bind λw=>(loop (σ:=eV) (ρ:=(bt⊕(aA×Z×bt))) (λ(a,_)=>bif br (a<w.2.1) then(bB (α:=bt⊕(eV⊕(bt⊕(aA×Z×bt)))) (b.bind λx=>(ao x.2.2.1 a).bind λy=>bif !y then Y (.inl ()) else(zd (b,a,())).bind λ(f,e,i,_)=>bif i !=0 then Y (.inr (.inr (.inr ([],i,())))) else((za (b,a,())).bind λ(g,_)=>bB (α:=(cV×cV×bt)⊕(bt⊕(eV⊕(bt⊕(aA×Z×bt))))) (bB (α:=(bA×cV×cV×bt)) ((mT (f,())).bind λ(o,_)=>bw ((o==0)==bq) ((wN (g,f,())).bind λ(p,_)=>Y (p,f,g,())) (Y (bp,f,g,()))) λ(v,l,m,_)=>bw v (Y (.inr (.inr (.inr (.inr ([a],0,())))))) (Y (.inl (l,m,())))) λc=>match c with
 |.inl (h,n,_)=>(b.bind λz=>bw (br (e>=z.2.1)) (Y (.inl ())) ((zd (b,e,())).bind λ(j,_,k,_)=>bw (k !=0) (Y (.inr (.inr (.inr ([],k,()))))) ((nw (n,j,())).bind λ(q,_)=>(nw (h,h,())).bind λ(r,_)=>(wN (q,r,())).bind λ(s,_)=>bw s (Y (.inr (.inr (.inr ([a],0,()))))) ((za (b,e,())).bind λ(t,_)=>(wN (t,j,())).bind λ(u,_)=>bw u (Y (.inr (.inr (.inr ([e],0,()))))) (Y (.inr (.inr (.inr ([a,e],0,())))))))))
 |.inr d=>Y d)) λc=>match c with
 |.inl _=>(Y (.inl (aP a,())))
 |.inr d=>Y d) else Y (.inr (.inl ()))) (0,())).bind λc=>match c with
 |.inl _=>(Y ([],0,()))
 |.inr d=>Y d
def ze:(bv c4×bt)->bv jB:=λ(c,_)=>c.bind λf=>(loop (σ:=(Z×aA×bt)) (ρ:=jB) (λ(a,b,_)=>bw (br (a<al f.1)) (bB (α:=jB) (c.bind λg=>(ao g.2.2.1 a).bind λh=>bw h ((cD (b.length+([a]).length)).bind λ_=>Y ((b++[a]),())) (Y (b,()))) λ(d,_)=>Y (.inl (aP a,d,()))) (Y (.inr (b,())))) (0,[],())).bind λ(e,_)=>Y (e,())
def oZ:(gh×cV×bt)->bv (gh×bt):=λ(c,e,_)=>(loop (σ:=(Z×gh×bt)) (ρ:=(gh×bt)) (λ(b,a,_)=>bw (br (b<al c)) ((ao c b).bind λg=>(nw (g,e,())).bind λ(d,_)=>(cD (a.length+([d]).length)).bind λ_=>Y (.inl (aP b,(a++[d]),()))) (Y (.inr (a,())))) (0,[],())).bind λ(f,_)=>Y (f,())
def pV:(c4×aA×gh×gh×bt)->bv (c4×bt):=λ(w,b,u,v,_)=>(loop (σ:=(Z×c4×bt)) (ρ:=(c4×bt)) (λ(c,i,_)=>bif br (c<al b) then(ao b c).bind λk=>(loop (σ:=(Z×c4×bt)) (ρ:=(c4×bt)) (λ(d,a,_)=>bif br (d<al b) then(ao b d).bind λj=>(bj (a.2.2.2.1).length k).bind λe=>(bj (a.2.2.2.1).length k).bind λg=>((a9 a.2.2.2.1 g λl=>Y l).bind λm=>bj m.length j).bind λr=>(a9 a.2.2.2.1 g λn=>a9 n r λo=>Y o).bind λz=>(ao u c).bind λA=>(ao v d).bind λB=>(nw (A,B,())).bind λ(s,_)=>(wD (z,s,())).bind λ(t,_)=>((a9 a.2.2.2.1 e λp=>Y p).bind λq=>bj q.length j).bind λh=>(((((a9 a.2.2.2.1 e λf=>(a9 f h λ_=>Y (f.set h t)).map λC=>(a.2.2.2.1).set e C).map λD=>(D,a.2.2.2.2)).map λE=>(a.2.2.1,E)).map λF=>(a.2.1,F)).map λG=>(a.1,G)).bind λH=>
 Y (.inl (aP d,H,())) else Y (.inr (a,()))) (0,i,())).bind λ(x,_)=>Y (.inl (aP c,x,())) else Y (.inr (i,()))) (0,w,())).bind λ(y,_)=>Y (y,())
def Cq:eV->bv (cV×bt):=λ(_,_)=>(qV (0,())).bind λ(a,_)=>Y (a,())
def GL:(bv c4×aA×bt×cV×bt)->bv (eE×gh×Z×bt):=λ(q,f,_,p,_)=>(loop (σ:=(Z×eE×eE×gh×bt)) (ρ:=((eE×eE×gh×bt)⊕(eE×gh×Z×bt))) (λ(e,h,a,d,_)=>bw (br (e<al f)) ((ao f e).bind λi=>(Cq (i,())).bind λ(n,_)=>(so (n,p,0,())).bind λ(b,_)=>(ny (b,())).bind λ(o,_)=>bw (!o) (Y (.inr (.inr (a,[],233,())))) (q.bind λr=>(ao r.1 i).bind λc=>(cD ((a.1).length+([c]).length)).bind λ_=>(cD ((a.2.1).length+([b]).length)).bind λ_=>(jW (b,())).bind λ(g,_)=>(cD (d.length+([g]).length)).bind λ_=>Y (.inl (aP e,h,(((a.1++[c]),a.2).1,((((a.1++[c]),a.2).2.1++[b]),((a.1++[c]),a.2).2.2)),(d++[g]),())))) (Y (.inr (.inl (h,a,d,()))))) (0,([],([],())),([],([],())),[],())).bind λl=>match l with
 |.inl (_,j,k,_)=>(Y (j,k,0,()))
 |.inr m=>Y m
def Cp:(Z×bv (bv c4)×ahT×bt)->bv (cV×bt):=λ(a,b,c,_)=>b.bind λd=>d.bind λe=>(ao e.2.2.2.1 a).bind λf=>c.bind λg=>(ao f g).bind λh=>Y (h,())
def GM:(bv c4×aA×(bv (bv c4)×ahT×bt)×cV×bt)->bv (eE×gh×Z×bt):=λ(r,f,g,q,_)=>(loop (σ:=(Z×eE×eE×gh×bt)) (ρ:=((eE×eE×gh×bt)⊕(eE×gh×Z×bt))) (λ(e,i,a,d,_)=>bw (br (e<al f)) ((ao f e).bind λj=>(Cp (j,g.1,g.2.1,())).bind λ(o,_)=>(so (o,q,0,())).bind λ(b,_)=>(ny (b,())).bind λ(p,_)=>bw (!p) (Y (.inr (.inr (a,[],233,())))) (r.bind λs=>(ao s.1 j).bind λc=>(cD ((a.1).length+([c]).length)).bind λ_=>(cD ((a.2.1).length+([b]).length)).bind λ_=>(jW (b,())).bind λ(h,_)=>(cD (d.length+([h]).length)).bind λ_=>Y (.inl (aP e,i,(((a.1++[c]),a.2).1,((((a.1++[c]),a.2).2.1++[b]),((a.1++[c]),a.2).2.2)),(d++[h]),())))) (Y (.inr (.inl (i,a,d,()))))) (0,([],([],())),([],([],())),[],())).bind λm=>match m with
 |.inl (_,k,l,_)=>(Y (k,l,0,()))
 |.inr n=>Y n
def wM:(gh×bt)->bv (cV×bt):=λ(a,_)=>(ao a 0).bind λd=>(ao a 2).bind λe=>(nw (d,e,())).bind λ(aJ,_)=>(ao a 1).bind λf=>(ao a 1).bind λg=>(nw (f,g,())).bind λ(b,_)=>(wD (aJ,b,())).bind λ(c,_)=>Y (c,())
def uw:(Z×Z×bv aA×bv eE×bt)->bv eV:=λ(c,d,a,b,_)=>a.bind λi=>b.bind λj=>(ao j.1 c).bind λk=>(ao i k).bind λl=>a.bind λm=>b.bind λf=>(ao f.1 d).bind λg=>(ao m g).bind λh=>(uk (l,h,())).bind λ(e,_)=>Y (e,())
def GZ:(aA×Z×Z×(bv aA×bv eE×bt)×bt)->bv jB:=λ(i,e,h,f,_)=>(loop (σ:=(Z×aA×bt)) (ρ:=jB) (λ(d,g,_)=>bif br (d<h) then(loop (σ:=(Z×aA×bt)) (ρ:=jB) (λ(a,b,_)=>bB (α:=jB⊕((Z×aA×bt)⊕jB)) (bw (br (a>e)==bp) (rd b a λo=>rd b (ay (a-1)) λp=>(uw (o,p,f.1,f.2.1,())).bind λ(n,_)=>bw (br (n<0)) (Y (.inl (b,()))) (Y (.inr (.inr (b,()))))) (Y (.inr (.inr (b,()))))) λl=>match l with
 |.inl (c,_)=>(rd c (ay (a-1)) λq=>rd c a λr=>wr c a q λs=>wr s (ay (a-1)) r λt=>Y (.inl (ay (a-1),t,())))
 |.inr m=>Y m) (d,g,())).bind λ(j,_)=>Y (.inl (aP d,j,())) else Y (.inr (g,()))) (aP e,i,())).bind λ(k,_)=>Y (k,())
def CQ:(aA×Z×Z×Z×(bv aA×bv eE×bt)×bt)->bv jB:=λ(f,d,e,h,c,_)=>(loop (σ:=(Z×Z×Z×bA×bA×aA×bt)) (ρ:=jB) (λ(a,b,_,_,_,g,_)=>bw (br (ay (b-a)<=12)) ((GZ (g,a,b,(c.1,c.2.1,()),())).bind λ(i,_)=>Y (.inr (i,()))) bo) (d,e,h,bp,bp,f,())).bind Y
def CN:(aA×(bv aA×bv eE×bt)×bt)->bv jB:=λ(a,b,_)=>(Cx (aL (al a),())).bind λ(d,_)=>(CQ (a,0,al a,d,(b.1,b.2.1,()),())).bind λ(c,_)=>Y (c,())
def Cv:(bv (bv (Z×((bm aA×bt)×(bm (bv (bm (Z×cV)×X))×bt)))×(aA×(aA×(aA×(bm eE×eV)))))×aA×bt)->bv (eG×bt):=λ(d,j,_)=>(fY (al j) (al j)).bind λP=>d.bind λT=>d.bind λU=>d.bind λad=>d.bind λH=>(loop (σ:=wg) (ρ:=(eG×aA×eG×bt)) (λ(g,B,t,e,_)=>bw (br (g<al H.2.1)) ((ao H.2.1 g).bind λC=>wr t C g λam=>(ao j C).bind λD=>(cD ((e.1).length+([D]).length)).bind λ_=>Y (.inl (aP g,B,am,((e.1++[D]),e.2),()))) (Y (.inr (B,t,e,())))) (0,([],([],([],([],([],([],((0:Z),()))))))),bJ P (0:Z),(([]:aA),(T.2.2.1,(U.2.2.2.1,([0],(([]:aA),(([]:aA),(ad.2.2.2.2.2.1,()))))))),())).bind λ(Q,M,J,_)=>d.bind λE=>(loop (σ:=wg) (ρ:=(eG×eG×bt)) (λ(k,y,N,r,_)=>bif br (k<al E.2.2.2.2.1) then(ao E.2.2.2.2.1 k).bind λm=>(fY (al m.1) (al m.1)).bind λx=>
 (loop (σ:=(Z×eG×aA×eG×eE×aA×bt)) (ρ:=(eG×aA×eG×eE×aA×bt)) (λ(f,z,u,s,p,n,_)=>bw (br (f<al (bJ x (0:Z)))) (wr n f f λan=>Y (.inl (aP f,z,u,s,p,an,()))) (Y (.inr (z,u,s,p,n,())))) (0,y,N,r,m,bJ x (0:Z),())).bind λ(R,v,K,q,I,_)=>(CN (I,(Y v,Y q,()),())).bind λ(w,_)=>(loop (σ:=(Z×eG×aA×eG×eE×aA×bt)) (ρ:=(eG×aA×eG×bt)) (λ(l,A,i,a,h,o,_)=>bif br (l<al w) then rd o l λF=>(ao h.1 F).bind λV=>rd i V λb=>(cD ((a.2.2.2.2.1).length+([b]).length)).bind λ_=>(ao h.2.1 F).bind λG=>(cD (((a.1,(a.2.1,(a.2.2.1,(a.2.2.2.1,((a.2.2.2.2.1++[b]),a.2.2.2.2.2))))).2.2.2.2.2.1).length+([G]).length)).bind λ_=>Y (.inl (aP l,A,i,((a.1,(a.2.1,(a.2.2.1,(a.2.2.2.1,((a.2.2.2.2.1++[b]),a.2.2.2.2.2))))).1,((a.1,(a.2.1,(a.2.2.1,(a.2.2.2.1,((a.2.2.2.2.1++[b]),a.2.2.2.2.2))))).2.1,((a.1,(a.2.1,(a.2.2.1,(a.2.2.2.1,((a.2.2.2.2.1++[b]),a.2.2.2.2.2))))).2.2.1,((a.1,(a.2.1,(a.2.2.1,(a.2.2.2.1,((a.2.2.2.2.1++[b]),a.2.2.2.2.2))))).2.2.2.1,((a.1,(a.2.1,(a.2.2.1,(a.2.2.2.1,((a.2.2.2.2.1++[b]),a.2.2.2.2.2))))).2.2.2.2.1,(((a.1,(a.2.1,(a.2.2.1,(a.2.2.2.1,((a.2.2.2.2.1++[b]),a.2.2.2.2.2))))).2.2.2.2.2.1++[G]),(a.1,(a.2.1,(a.2.2.1,(a.2.2.2.1,((a.2.2.2.2.1++[b]),a.2.2.2.2.2))))).2.2.2.2.2.2)))))),h,o,())) else
 Y (.inr (A,i,a,()))) (0,R,v,K,q,w,())).bind λ(S,O,c,_)=>(cD ((c.2.2.2.1).length+([al c.2.2.2.2.1]).length)).bind λ_=>Y (.inl (aP k,S,O,(c.1,(c.2.1,(c.2.2.1,((c.2.2.2.1++[al c.2.2.2.2.1]),c.2.2.2.2)))),())) else Y (.inr (y,r,()))) (0,Q,M,J,())).bind λ(_,L,_)=>Y (L,())
def Cg:(qL×bt)->bv kv:=λ(a,_)=>Y (br (al a.2.2.1>64),())
def CK:(bm qL×bt×bt)->bv eV:=λ(b,_,_)=>(loop (σ:=eV) (ρ:=(bt⊕eV)) (λ(a,_)=>bw (br (a<al b)) ((ao b a).bind λf=>(Cg (f,())).bind λ(e,_)=>bw e (Y (.inr (.inr (a,())))) (Y (.inl (aP a,())))) (Y (.inr (.inl ())))) (0,())).bind λc=>match c with
 |.inl _=>(Y ((-1:Z),()))
 |.inr d=>Y d
def CI:(bm qL×bt×bt)->bv kv:=λ(b,_,_)=>(CK (b,(),())).bind λ(a,_)=>Y (br (a>=0),())
def q4:(aA×Z×bt)->bv eV:=λ(b,c,_)=>(loop (σ:=eV) (ρ:=(bt⊕eV)) (λ(a,_)=>bw (br (a<al b)) ((ao b a).bind λf=>bw (f==c) (Y (.inr (.inr (a,())))) (Y (.inl (aP a,())))) (Y (.inr (.inl ())))) (0,())).bind λd=>match d with
 |.inl _=>(Y ((-1:Z),()))
 |.inr e=>Y e
def Dr:(lZ×aA×bm qL×Z×bm de×bt)->bv (de×bt):=λ(an,ci,c,b,y,_)=>(loop (σ:=(Z×de×de×bt)) (ρ:=nk) (λ(g,B,m,_)=>bw (br (g<b)) (bB (α:=nk) ((ao c g).bind λgf=>bw (gf.2.2.2.1==b) ((ao y g).bind λF=>(ao y g).bind λft=>((Y (0)).bind λL=>(gv ft.2.1).bind λM=>(g9 L M (F.1).length).map λ_=>(L,M)).bind λs=>(cD ((m.1).length+(((F.1).take s.2).drop s.1).length)).bind λ_=>Y (B,((m.1++(((F.1).take s.2).drop s.1)),m.2),())) (Y (B,m,()))) λ(dl,el,_)=>Y (.inl (aP g,dl,el,()))) (Y (.inr (B,m,())))) (0,([],((0:Z),([],()))),([],((0:Z),([],()))),())).bind λ(ds,em,_)=>(ao c b).bind λfT=>(loop (σ:=(Z×de×de×bt)) (ρ:=nk) (λ(q,Q,t,_)=>(ao c b).bind λf0=>bif br (q<f0.2.1) then(cD ((t.1).length+([q]).length)).bind λ_=>Y (.inl (aP q,Q,((t.1++[q]),t.2),())) else
 Y (.inr (Q,t,()))) (fT.1,ds,em,())).bind λ(d0,D,_)=>(loop (σ:=(Z×de×de×bt)) (ρ:=nk) (λ(o,z,j,_)=>(ao c b).bind λf1=>bw (br (o<al f1.2.2.1)) (bB (α:=nk) ((ao c b).bind λf2=>(ao f2.2.2.1 o).bind λf3=>(ao c b).bind λf4=>bw (br (f3>=f4.2.1)) ((ao c b).bind λf5=>(ao f5.2.2.1 o).bind λad=>(cD ((j.1).length+([ad]).length)).bind λ_=>Y (z,((j.1++[ad]),j.2),())) (Y (z,j,()))) λ(d1,eq,_)=>Y (.inl (aP o,d1,eq,()))) (Y (.inr (z,j,())))) (0,d0,(D.1,(al D.1,D.2.2)),())).bind λ(d2,k,_)=>(loop (σ:=(Z×de×de×bt)) (ρ:=nk) (λ(h,R,e,_)=>bif br (h<al k.1) then(fY (al k.1) (al k.1)).bind λN=>(cD ((e.2.2.1).length+([bJ N (bq,((bq,(([]:ahZ),())),((0:Z),())))]).length)).bind λ_=>(loop (σ:=(Z×de×de×bt)) (ρ:=nk) (λ(i,A,l,_)=>bif br (i<al k.1) then
 bB (α:=nk) (rd l.1 h λu=>rd l.1 i λv=>bB (α:=(bA×de×de×bt)) ((ao c b).bind λf6=>bw (br ((if v<u then v else u)>=f6.1)==bp) ((ao c b).bind λf7=>Y (br ((if v<u then v else u)<f7.2.1),A,l,())) (Y (bq,A,l,()))) λ(d3,S,d,_)=>bw d3 ((bj (d.2.2.1).length h).bind λw=>rd d.1 h λf8=>rd d.1 i λf9=>(wZ (an,ci,f8,f9,())).bind λ(cs,_)=>((a9 d.2.2.1 w λbs=>Y bs).bind λbx=>bj bx.length i).bind λK=>((((a9 d.2.2.1 w λH=>(a9 H K λ_=>Y (H.set K cs)).map λhs=>(d.2.2.1).set w hs).map λhv=>(hv,d.2.2.2)).map λhw=>(d.2.1,hw)).map λib=>(d.1,ib)).bind λic=>Y (S,ic,())) (Y (S,d,()))) λ(d4,ex,_)=>Y (.inl (aP i,d4,ex,())) else Y (.inr (A,l,()))) (0,R,(e.1,(e.2.1,((e.2.2.1++[bJ N (bq,((bq,(([]:ahZ),())),((0:Z),())))]),e.2.2.2))),())).bind λ(d5,fl,_)=>
 Y (.inl (aP h,d5,fl,())) else Y (.inr (R,e,()))) (0,d2,k,())).bind λ(d6,fn,_)=>(loop (σ:=(Z×de×de×bt)) (ρ:=nk) (λ(n,C,E,_)=>bif br (n<b) then bB (α:=nk) ((ao c n).bind λgc=>bif gc.2.2.2.1 !=b then Y (C,E,()) else(ao y n).bind λge=>(loop (σ:=(Z×de×de×de×bt)) (ρ:=nk) (λ(p,T,V,am,_)=>bif br (p<al am.1) then(loop (σ:=(Z×de×de×de×bt)) (ρ:=(de×de×de×bt)) (λ(r,U,a,f,_)=>bif br (r<al f.1) then(ao f.1 p).bind λgi=>(q4 (a.1,gi,())).bind λ(O,_)=>(ao f.1 r).bind λgl=>(q4 (a.1,gl,())).bind λ(P,_)=>(bj (a.2.2.1).length O).bind λx=>(bj (a.2.2.1).length O).bind λI=>((a9 a.2.2.1 I λap=>Y ap).bind λav=>bj av.length P).bind λce=>(a9 a.2.2.1 I λa0=>a9 a0 ce λa3=>Y a3).bind λfp=>(ao f.2.2.1 p).bind λfs=>(ao fs r).bind λfz=>
 (sy (fp,fz,())).bind λ(co,_)=>((a9 a.2.2.1 x λa4=>Y a4).bind λbl=>bj bl.length P).bind λJ=>((((a9 a.2.2.1 x λG=>(a9 G J λ_=>Y (G.set J co)).map λgs=>(a.2.2.1).set x gs).map λgt=>(gt,a.2.2.2)).map λhc=>(a.2.1,hc)).map λhi=>(a.1,hi)).bind λhr=>Y (.inl (aP r,U,hr,f,())) else Y (.inr (U,a,f,()))) (0,T,V,am,())).bind λ(cv,d7,go,_)=>Y (.inl (aP p,cv,d7,go,())) else Y (.inr (T,V,()))) (0,C,E,ge,())).bind λ(c1,d8,_)=>Y (c1,d8,())) λ(c2,d9,_)=>Y (.inl (aP n,c2,d9,())) else Y (.inr (C,E,()))) (0,d6,fn,())).bind λ(_,ek,_)=>Y (ek,())
def uG:(cV×bt)->bv eV:=λ(a,_)=>(zr (a,0,())).bind λ(b,_)=>Y (b,())
def zH:(de×Z×bt)->bv (gh×bA×bt):=λ(e,f,_)=>(loop (σ:=(Z×gh×bt)) (ρ:=((gh×bt)⊕(gh×bA×bt))) (λ(a,b,_)=>bw (br (a<al e.1)) ((ao e.2.2.1 a).bind λl=>(ao l f).bind λm=>(uG (m,())).bind λ(c,_)=>(q0 (c,())).bind λ(i,_)=>bw (!i) (Y (.inr (.inr ([],bq,())))) ((kU (c,())).bind λ(j,_)=>(C5 (j,())).bind λ(d,_)=>(cD (b.length+([d]).length)).bind λ_=>Y (.inl (aP a,(b++[d]),())))) (Y (.inr (.inl (b,()))))) (0,[],())).bind λg=>match g with
 |.inl (k,_)=>(Y (k,bp,()))
 |.inr h=>Y h
def w3:(gh×Z×bt)->bv (cV×Z×bt):=λ(e,l,_)=>(loop (σ:=(Z×Z×cV×cV×bt)) (ρ:=(Z×cV×cV×bt)) (λ(d,a,c,b,_)=>bw (br (a<al e)) (bB (α:=(Z×cV×cV×bt)) (bB (α:=(bA×cV×cV×bt)) (bw ((a !=l)==bp) (bw (br (d<0)==bq) ((ao e a).bind λq=>(zD (b,q,())).bind λ(m,_)=>Y (m,c,b,())) (Y (bp,c,b,()))) (Y (bq,c,b,()))) λ(o,f,i,_)=>bw o ((ao e a).bind λp=>Y (a,f,p,())) (Y (d,f,i,()))) λ(g,n,j,_)=>Y (.inl (g,aP a,n,j,()))) (Y (.inr (d,c,b,())))) ((-1:Z),0,(bq,((bq,(([]:ahZ),())),((0:Z),()))),(bq,((bq,(([]:ahZ),())),((0:Z),()))),())).bind λ(h,_,k,_)=>Y (k,h,())
def w4:(cV×cV×bt)->bv kv:=λ(a,b,_)=>(wV (64,())).bind λ(c,_)=>(kb (c,a,())).bind λ(aJ,_)=>(wV (41,())).bind λ(d,_)=>(kb (d,b,())).bind λ(e,_)=>(zD (aJ,e,())).bind λ(f,_)=>Y ((!f),())
def zG:(de×bt)->bv (aA×bA×bt):=λ(f,_)=>(loop (σ:=eV) (ρ:=(bt⊕(aA×bA×bt))) (λ(a,_)=>bif br (a<f.2.1) then(bB (α:=bt⊕(eV⊕(bt⊕(aA×bA×bt)))) ((zH (f,a,())).bind λ(g,l,_)=>bif !l then Y (.inr (.inr (.inr ([],bq,())))) else((w3 (g,a,())).bind λ(e,b,_)=>bB (α:=(cV×bt)⊕(bt⊕(eV⊕(bt⊕(aA×bA×bt))))) (bB (α:=(bA×cV×bt)) ((Da (e,())).bind λ(m,_)=>bw ((m==0)==bq) ((ao g a).bind λu=>(w4 (u,e,())).bind λ(n,_)=>Y (n,e,())) (Y (bp,e,()))) λ(t,k,_)=>bw t (Y (.inr (.inr (.inr (.inr ([a],bp,())))))) (Y (.inl (k,())))) λc=>match c with
 |.inl (h,_)=>(bw (br (b>=f.2.1)) (Y (.inl ())) ((zH (f,b,())).bind λ(i,o,_)=>bw (!o) (Y (.inr (.inr (.inr ([],bq,()))))) ((w3 (i,b,())).bind λ(j,_,_)=>(ao g a).bind λv=>(kb (v,j,())).bind λ(p,_)=>(kb (h,h,())).bind λ(q,_)=>(w4 (p,q,())).bind λ(r,_)=>bw r (Y (.inr (.inr (.inr ([a],bp,()))))) ((ao i b).bind λw=>(w4 (w,j,())).bind λ(s,_)=>bw s (Y (.inr (.inr (.inr ([b],bp,()))))) (Y (.inr (.inr (.inr ([a,b],bp,())))))))))
 |.inr d=>Y d)) λc=>match c with
 |.inl _=>(Y (.inl (aP a,())))
 |.inr d=>Y d) else Y (.inr (.inl ()))) (0,())).bind λc=>match c with
 |.inl _=>(Y ([],bp,()))
 |.inr d=>Y d
def Dt:(de×aA×bt)->bv (de×bt):=λ(b,g,_)=>(loop (σ:=(Z×de×de×bt)) (ρ:=nk) (λ(a,h,d,_)=>bif br (a<al b.1) then bB (α:=nk) ((q4 (g,a,())).bind λ(o,_)=>bif br (o>=0) then Y (h,d,()) else(ao b.1 a).bind λm=>(cD ((d.1).length+([m]).length)).bind λ_=>(loop (σ:=(Z×de×de×gh×bt)) (ρ:=(de×de×gh×bt)) (λ(e,i,j,f,_)=>bw (br (e<al b.1)) (bB (α:=(de×de×gh×bt)) ((q4 (g,e,())).bind λ(n,_)=>bw (br (n<0)) ((ao b.2.2.1 a).bind λt=>(ao t e).bind λl=>(cD (f.length+([l]).length)).bind λ_=>Y (i,j,(f++[l]),())) (Y (i,j,f,()))) λ(q,u,p,_)=>Y (.inl (aP e,q,u,p,()))) (Y (.inr (i,j,f,())))) (0,h,((d.1++[m]),d.2),[],())).bind λ(r,c,k,_)=>(cD ((c.2.2.1).length+([k]).length)).bind λ_=>
 Y (r,(c.1,(c.2.1,((c.2.2.1++[k]),c.2.2.2))),())) λ(s,v,_)=>Y (.inl (aP a,s,v,())) else Y (.inr (h,d,()))) (0,([],((0:Z),([],()))),(([]:aA),(ay (b.2.1-al g),(([]:e1),()))),())).bind λ(_,w,_)=>Y (w,())
def zF:jB->bv (cV×bt):=λ(a,_)=>(ao a 0).bind λd=>(ao a 2).bind λe=>(zE (d,e,())).bind λ(aJ,_)=>(ao a 1).bind λf=>(ao a 1).bind λg=>(zE (f,g,())).bind λ(b,_)=>(uE (aJ,b,())).bind λ(c,_)=>Y (c,())
def uI:(hd×de×aA×Z×bt)->bv jB:=λ(a,f,b,d,_)=>(ao f.2.2.1 d).bind λC=>(ao b 0).bind λD=>(ao C D).bind λc=>(bif al b==1 then(ao a.2.1 0).bind λE=>(Dm (E,())).bind λ(v,_)=>bw v (Y ([0],())) ((ao a.2.1 0).bind λw=>(kU (w,())).bind λ(h,_)=>(wY (c,h,())).bind λ(i,_)=>Y ([i],())) else(ao f.2.2.1 d).bind λx=>(ao b 1).bind λy=>(ao x y).bind λg=>(ao a.2.1 0).bind λz=>(kU (z,())).bind λ(j,_)=>(ao a.2.1 1).bind λA=>(kU (A,())).bind λ(e,_)=>(ao a.2.1 2).bind λB=>(kU (B,())).bind λ(k,_)=>(kb (c,k,())).bind λ(l,_)=>(kb (g,e,())).bind λ(m,_)=>(uE (l,m,())).bind λ(n,_)=>(kb (g,j,())).bind λ(o,_)=>(kb (c,e,())).bind λ(p,_)=>(uE (o,p,())).bind λ(q,_)=>
 (zF (a.2.1,())).bind λ(r,_)=>(wY (n,r,())).bind λ(s,_)=>(zF (a.2.1,())).bind λ(t,_)=>(wY (q,t,())).bind λ(u,_)=>Y ([s,u],()))
def uH:(hd×Z×Z×bt)->bv (cV×bt):=λ(a,b,c,_)=>(ao a.2.2.2.1 0).bind λD=>(ao D b).bind λE=>(kU (E,())).bind λ(h,_)=>(ao a.2.2.2.1 0).bind λF=>(ao F c).bind λG=>(kU (G,())).bind λ(i,_)=>(ao a.2.1 0).bind λw=>(kU (w,())).bind λ(j,_)=>(kb (h,j,())).bind λ(k,_)=>(kb (k,i,())).bind λ(d,_)=>bB (α:=(cV×cV×bt)) (bif al a.1==2 then(ao a.2.2.2.1 1).bind λx=>(ao x b).bind λy=>(kU (y,())).bind λ(e,_)=>(ao a.2.2.2.1 1).bind λz=>(ao z c).bind λA=>(kU (A,())).bind λ(f,_)=>(ao a.2.1 1).bind λB=>(kU (B,())).bind λ(g,_)=>(ao a.2.1 2).bind λC=>(kU (C,())).bind λ(l,_)=>(kb (h,g,())).bind λ(m,_)=>(kb (m,f,())).bind λ(n,_)=>(sy (d,n,())).bind λ(o,_)=>(kb (e,g,())).bind λ(p,_)=>
 (kb (p,i,())).bind λ(q,_)=>(sy (o,q,())).bind λ(r,_)=>(kb (e,l,())).bind λ(s,_)=>(kb (s,f,())).bind λ(t,_)=>(sy (r,t,())).bind λ(u,_)=>Y ((bq,((bq,(([]:ahZ),())),((0:Z),()))),u,()) else Y ((bq,((bq,(([]:ahZ),())),((0:Z),()))),d,())) λ(_,v,_)=>Y (v,())
def w2:(de×aA×bt)->bv (de×hd×bA×bt):=λ(f,b,_)=>(Dt (f,b,())).bind λ(G,_)=>(loop (σ:=qK) (ρ:=nj) (λ(r,L,M,T,a,_)=>bw (br (r<al b)) ((ao b r).bind λf0=>(ao f.1 f0).bind λg=>(cD ((a.1).length+([g]).length)).bind λ_=>(cD ((((a.1++[g]),a.2).2.2.2.1).length+([([]:aA)]).length)).bind λ_=>Y (.inl (aP r,L,M,T,(((a.1++[g]),a.2).1,(((a.1++[g]),a.2).2.1,(((a.1++[g]),a.2).2.2.1,((((a.1++[g]),a.2).2.2.2.1++[([]:aA)]),((a.1++[g]),a.2).2.2.2.2)))),()))) (Y (.inr (L,M,T,a,())))) (0,([],((0:Z),([],()))),([],([],([],([],())))),G,(([]:aA),(([]:aA),(G.1,(([]:bm aA),())))),())).bind λ(H,I,S,e,_)=>(ao b 0).bind λd9=>(ao f.2.2.1 d9).bind λek=>(ao b 0).bind λel=>(ao ek el).bind λem=>(uG (em,())).bind λ(m,_)=>bB (α:=nj) (bif al b==2 then(ao b 1).bind λeq=>
 (ao f.2.2.1 eq).bind λex=>(ao b 0).bind λfl=>(ao ex fl).bind λfn=>(uG (fn,())).bind λ(E,_)=>(ao b 1).bind λfp=>(ao f.2.2.1 fp).bind λfs=>(ao b 1).bind λft=>(ao fs ft).bind λfz=>(uG (fz,())).bind λ(F,_)=>(cD (((e.1,([m],e.2.2)).2.1).length+([E,F]).length)).bind λ_=>Y (H,I,S,((e.1,([m],e.2.2)).1,(((e.1,([m],e.2.2)).2.1++[E,F]),(e.1,([m],e.2.2)).2.2)),()) else Y (H,I,S,(e.1,([m],e.2.2)),())) λ(ds,d0,f4,bs,_)=>(loop (σ:=qK) (ρ:=(nj⊕(de×hd×bA×bt))) (λ(n,u,v,w,p,_)=>bif br (n<al f.1) then(bB (α:=nj⊕(qK⊕(nj⊕(de×hd×bA×bt)))) ((q4 (b,n,())).bind λ(co,_)=>bif br (co>=0) then Y (.inl (u,v,w,p,())) else((uI (p,f,b,n,())).bind λ(t,_)=>(loop (σ:=qK) (ρ:=(nj⊕(nj⊕(qK⊕(nj⊕(de×hd×bA×bt)))))) (λ(h,J,K,x,c,_)=>
  bw (br (h<al t)) ((ao t h).bind λfT=>(q0 (fT,())).bind λ(cs,_)=>bw (!cs) (Y (.inr (.inr (.inr (.inr (.inr (x,c,bq,()))))))) ((bj (c.2.2.2.1).length h).bind λA=>(ao t h).bind λR=>(a9 c.2.2.2.1 A λU=>Y U).bind λd7=>(cD (d7.length+([R]).length)).bind λ_=>(bj (c.2.2.2.1).length h).bind λo=>bw (bH A o&&bp) ((a9 c.2.2.2.1 o λV=>Y V).bind λd8=>(((((a9 c.2.2.2.1 o λ_=>Y ((c.2.2.2.1).set o (d8++[R]))).map λgi=>(gi,c.2.2.2.2)).map λgl=>(c.2.2.1,gl)).map λgo=>(c.2.1,go)).map λgs=>(c.1,gs)).bind λgt=>Y (.inl (aP h,J,K,x,gt,()))) bo)) (Y (.inr (.inl (J,K,x,c,()))))) (0,u,v,w,p,())).bind λk=>match k with
 |.inl (d1,d2,f5,bx,_)=>(Y (.inl (d1,d2,f5,bx,())))
 |.inr l=>Y l)) λk=>match k with
 |.inl (d3,d4,f6,ce,_)=>(Y (.inl (aP n,d3,d4,f6,ce,())))
 |.inr l=>Y l) else Y (.inr (.inl (u,v,w,p,())))) (0,ds,d0,f4,bs,())).bind λk=>match k with
 |.inl (d5,d6,f7,ci,_)=>((loop (σ:=qK) (ρ:=nj) (λ(i,N,O,y,D,_)=>bif br (i<al y.1) then(loop (σ:=qK) (ρ:=nj) (λ(j,P,Q,d,s,_)=>bw (br (j<al d.1)) ((bj (d.2.2.1).length i).bind λq=>(bj (d.2.2.1).length i).bind λB=>((a9 d.2.2.1 B λad=>Y ad).bind λam=>bj am.length j).bind λa3=>(a9 d.2.2.1 B λan=>a9 an a3 λap=>Y ap).bind λf1=>(uH (s,i,j,())).bind λ(cv,_)=>(uE (f1,cv,())).bind λ(c1,_)=>((a9 d.2.2.1 q λav=>Y av).bind λa0=>bj a0.length j).bind λC=>((((a9 d.2.2.1 q λz=>(a9 z C λ_=>Y (z.set C c1)).map λf8=>(d.2.2.1).set q f8).map λf9=>(f9,d.2.2.2)).map λgc=>(d.2.1,gc)).map λge=>(d.1,ge)).bind λgf=>Y (.inl (aP j,P,Q,gf,s,()))) (Y (.inr (P,Q,d,s,())))) (0,N,O,y,D,())).bind λ(c2,dl,f2,a4,_)=>
 Y (.inl (aP i,c2,dl,f2,a4,())) else Y (.inr (N,O,y,D,()))) (0,d5,d6,f7,ci,())).bind λ(_,_,f3,bl,_)=>Y (f3,bl,bp,()))
 |.inr l=>Y l
def Ds:(aA×bm hd×Z×bt)->bv (eG×bt):=λ(z,e,a0,_)=>(fY (al z) (al z)).bind λds=>(loop (σ:=wg) (ρ:=(eG×aA×eG×bt)) (λ(j,ad,I,G,_)=>bif br (j<al e) then(loop (σ:=wg) (ρ:=(eG×aA×eG×bt)) (λ(r,am,J,n,_)=>(ao e j).bind λfn=>bw (br (r<al fn.1)) ((ao e j).bind λfp=>(ao fp.1 r).bind λfs=>wr J fs (al n.1) λfT=>(ao e j).bind λft=>(ao ft.1 r).bind λfz=>(ao z fz).bind λap=>(cD ((n.1).length+([ap]).length)).bind λ_=>Y (.inl (aP r,am,fT,((n.1++[ap]),n.2),()))) (Y (.inr (am,J,n,())))) (0,ad,I,G,())).bind λ(d6,c1,c,_)=>(ao e j).bind λl=>(cD ((c.2.1).length+([al l.1]).length)).bind λ_=>(ao e j).bind λav=>(cD (((c.1,((c.2.1++[al l.1]),c.2.2)).2.2.1).length+(av.2.1).length)).bind λ_=>Y (.inl (aP j,d6,c1,((c.1,((c.2.1++[al l.1]),c.2.2)).1,((c.1,((c.2.1++[al l.1]),c.2.2)).2.1,(((c.1,((c.2.1++[al l.1]),c.2.2)).2.2.1++av.2.1),(c.1,((c.2.1++[al l.1]),c.2.2)).2.2.2))),())) else
 Y (.inr (ad,I,G,()))) (0,([],([],([],([],([],([],((0:Z),()))))))),bJ ds (0:Z),(([]:aA),(([]:aA),(([]:aA),([0],(([]:aA),(([]:aA),(a0,()))))))),())).bind λ(d7,c2,bx,_)=>(loop (σ:=wg) (ρ:=(eG×eG×bt)) (λ(k,T,ce,D,_)=>bif br (k<al e) then(loop (σ:=wg) (ρ:=(eG×aA×eG×bt)) (λ(y,U,H,E,_)=>(ao e k).bind λd9=>bif br (y<al d9.1) then(loop (σ:=qM) (ρ:=(eG×aA×eG×aA×aA×bt)) (λ(q,V,w,F,K,an,_)=>(ao e k).bind λek=>bif br (q<al ek.2.2.1) then(ao e k).bind λel=>(ao el.2.2.1 q).bind λem=>rd w em λu=>(loop (σ:=qM) (ρ:=qM) (λ(m,A,x,v,o,B,_)=>bB (α:=(eG×aA×eG×aA×aA×bt)⊕(qM⊕qM)) (bif br (m<al o)==bp then rd o m λeq=>bif br (eq<u) then Y (.inl (A,x,v,o,B,())) else
 Y (.inr (.inr (m,A,x,v,o,B,()))) else Y (.inr (.inr (m,A,x,v,o,B,())))) λd0=>match d0 with
 |.inl (d2,ci,a3,dl,d8,_)=>(Y (.inl (aP m,d2,ci,a3,dl,d8,())))
 |.inr d1=>Y d1) (0,V,w,F,K,an,())).bind λ(p,d3,co,a4,d,f,_)=>((Y (0)).bind λL=>(gv p).bind λM=>(g9 L M d.length).bind λ_=>(nK d.length).map λ_=>(L,M)).bind λh=>(cD (([]:aA).length+((d.take h.2).drop h.1).length)).bind λ_=>(cD (([]++((d.take h.2).drop h.1)).length+([u]).length)).bind λ_=>((gv p).bind λN=>(Y d.length).bind λO=>(g9 N O d.length).bind λ_=>(nK d.length).map λ_=>(N,O)).bind λs=>(cD ((([]++((d.take h.2).drop h.1))++[u]).length+((d.take s.2).drop s.1).length)).bind λ_=>((Y (0)).bind λP=>(gv p).bind λQ=>(g9 P Q f.length).bind λ_=>(nK f.length).map λ_=>(P,Q)).bind λi=>(cD (([]:aA).length+((f.take i.2).drop i.1).length)).bind λ_=>(ao e k).bind λex=>(ao ex.2.2.2.1 y).bind λfl=>(ao fl q).bind λC=>
 (cD (([]++((f.take i.2).drop i.1)).length+([C]).length)).bind λ_=>((gv p).bind λR=>(Y f.length).bind λS=>(g9 R S f.length).bind λ_=>(nK f.length).map λ_=>(R,S)).bind λt=>(cD ((([]++((f.take i.2).drop i.1))++[C]).length+((f.take t.2).drop t.1).length)).bind λ_=>Y (.inl (aP q,d3,co,a4,((([]++((d.take h.2).drop h.1))++[u])++((d.take s.2).drop s.1)),((([]++((f.take i.2).drop i.1))++[C])++((f.take t.2).drop t.1)),())) else Y (.inr (V,w,F,K,an,()))) (0,U,H,E,[],[],())).bind λ(d4,cs,a,b,g,_)=>(cD ((a.2.2.2.2.1).length+b.length)).bind λ_=>(cD (((a.1,(a.2.1,(a.2.2.1,(a.2.2.2.1,((a.2.2.2.2.1++b),a.2.2.2.2.2))))).2.2.2.2.2.1).length+g.length)).bind λ_=>(cD ((((a.1,(a.2.1,(a.2.2.1,(a.2.2.2.1,((a.2.2.2.2.1++b),a.2.2.2.2.2))))).1,((a.1,(a.2.1,(a.2.2.1,(a.2.2.2.1,((a.2.2.2.2.1++b),a.2.2.2.2.2))))).2.1,((a.1,(a.2.1,(a.2.2.1,(a.2.2.2.1,((a.2.2.2.2.1++b),a.2.2.2.2.2))))).2.2.1,((a.1,(a.2.1,(a.2.2.1,(a.2.2.2.1,((a.2.2.2.2.1++b),a.2.2.2.2.2))))).2.2.2.1,((a.1,(a.2.1,(a.2.2.1,(a.2.2.2.1,((a.2.2.2.2.1++b),a.2.2.2.2.2))))).2.2.2.2.1,(((a.1,(a.2.1,(a.2.2.1,(a.2.2.2.1,((a.2.2.2.2.1++b),a.2.2.2.2.2))))).2.2.2.2.2.1++g),(a.1,(a.2.1,(a.2.2.1,(a.2.2.2.1,((a.2.2.2.2.1++b),a.2.2.2.2.2))))).2.2.2.2.2.2)))))).2.2.2.1).length+([al (((a.1,(a.2.1,(a.2.2.1,(a.2.2.2.1,((a.2.2.2.2.1++b),a.2.2.2.2.2))))).1,((a.1,(a.2.1,(a.2.2.1,(a.2.2.2.1,((a.2.2.2.2.1++b),a.2.2.2.2.2))))).2.1,((a.1,(a.2.1,(a.2.2.1,(a.2.2.2.1,((a.2.2.2.2.1++b),a.2.2.2.2.2))))).2.2.1,((a.1,(a.2.1,(a.2.2.1,(a.2.2.2.1,((a.2.2.2.2.1++b),a.2.2.2.2.2))))).2.2.2.1,((a.1,(a.2.1,(a.2.2.1,(a.2.2.2.1,((a.2.2.2.2.1++b),a.2.2.2.2.2))))).2.2.2.2.1,(((a.1,(a.2.1,(a.2.2.1,(a.2.2.2.1,((a.2.2.2.2.1++b),a.2.2.2.2.2))))).2.2.2.2.2.1++g),(a.1,(a.2.1,(a.2.2.1,(a.2.2.2.1,((a.2.2.2.2.1++b),a.2.2.2.2.2))))).2.2.2.2.2.2)))))).2.2.2.2.1)]).length)).bind λ_=>
 Y (.inl (aP y,d4,cs,(((a.1,(a.2.1,(a.2.2.1,(a.2.2.2.1,((a.2.2.2.2.1++b),a.2.2.2.2.2))))).1,((a.1,(a.2.1,(a.2.2.1,(a.2.2.2.1,((a.2.2.2.2.1++b),a.2.2.2.2.2))))).2.1,((a.1,(a.2.1,(a.2.2.1,(a.2.2.2.1,((a.2.2.2.2.1++b),a.2.2.2.2.2))))).2.2.1,((a.1,(a.2.1,(a.2.2.1,(a.2.2.2.1,((a.2.2.2.2.1++b),a.2.2.2.2.2))))).2.2.2.1,((a.1,(a.2.1,(a.2.2.1,(a.2.2.2.1,((a.2.2.2.2.1++b),a.2.2.2.2.2))))).2.2.2.2.1,(((a.1,(a.2.1,(a.2.2.1,(a.2.2.2.1,((a.2.2.2.2.1++b),a.2.2.2.2.2))))).2.2.2.2.2.1++g),(a.1,(a.2.1,(a.2.2.1,(a.2.2.2.1,((a.2.2.2.2.1++b),a.2.2.2.2.2))))).2.2.2.2.2.2)))))).1,(((a.1,(a.2.1,(a.2.2.1,(a.2.2.2.1,((a.2.2.2.2.1++b),a.2.2.2.2.2))))).1,((a.1,(a.2.1,(a.2.2.1,(a.2.2.2.1,((a.2.2.2.2.1++b),a.2.2.2.2.2))))).2.1,((a.1,(a.2.1,(a.2.2.1,(a.2.2.2.1,((a.2.2.2.2.1++b),a.2.2.2.2.2))))).2.2.1,((a.1,(a.2.1,(a.2.2.1,(a.2.2.2.1,((a.2.2.2.2.1++b),a.2.2.2.2.2))))).2.2.2.1,((a.1,(a.2.1,(a.2.2.1,(a.2.2.2.1,((a.2.2.2.2.1++b),a.2.2.2.2.2))))).2.2.2.2.1,(((a.1,(a.2.1,(a.2.2.1,(a.2.2.2.1,((a.2.2.2.2.1++b),a.2.2.2.2.2))))).2.2.2.2.2.1++g),(a.1,(a.2.1,(a.2.2.1,(a.2.2.2.1,((a.2.2.2.2.1++b),a.2.2.2.2.2))))).2.2.2.2.2.2)))))).2.1,(((a.1,(a.2.1,(a.2.2.1,(a.2.2.2.1,((a.2.2.2.2.1++b),a.2.2.2.2.2))))).1,((a.1,(a.2.1,(a.2.2.1,(a.2.2.2.1,((a.2.2.2.2.1++b),a.2.2.2.2.2))))).2.1,((a.1,(a.2.1,(a.2.2.1,(a.2.2.2.1,((a.2.2.2.2.1++b),a.2.2.2.2.2))))).2.2.1,((a.1,(a.2.1,(a.2.2.1,(a.2.2.2.1,((a.2.2.2.2.1++b),a.2.2.2.2.2))))).2.2.2.1,((a.1,(a.2.1,(a.2.2.1,(a.2.2.2.1,((a.2.2.2.2.1++b),a.2.2.2.2.2))))).2.2.2.2.1,(((a.1,(a.2.1,(a.2.2.1,(a.2.2.2.1,((a.2.2.2.2.1++b),a.2.2.2.2.2))))).2.2.2.2.2.1++g),(a.1,(a.2.1,(a.2.2.1,(a.2.2.2.1,((a.2.2.2.2.1++b),a.2.2.2.2.2))))).2.2.2.2.2.2)))))).2.2.1,((((a.1,(a.2.1,(a.2.2.1,(a.2.2.2.1,((a.2.2.2.2.1++b),a.2.2.2.2.2))))).1,((a.1,(a.2.1,(a.2.2.1,(a.2.2.2.1,((a.2.2.2.2.1++b),a.2.2.2.2.2))))).2.1,((a.1,(a.2.1,(a.2.2.1,(a.2.2.2.1,((a.2.2.2.2.1++b),a.2.2.2.2.2))))).2.2.1,((a.1,(a.2.1,(a.2.2.1,(a.2.2.2.1,((a.2.2.2.2.1++b),a.2.2.2.2.2))))).2.2.2.1,((a.1,(a.2.1,(a.2.2.1,(a.2.2.2.1,((a.2.2.2.2.1++b),a.2.2.2.2.2))))).2.2.2.2.1,(((a.1,(a.2.1,(a.2.2.1,(a.2.2.2.1,((a.2.2.2.2.1++b),a.2.2.2.2.2))))).2.2.2.2.2.1++g),(a.1,(a.2.1,(a.2.2.1,(a.2.2.2.1,((a.2.2.2.2.1++b),a.2.2.2.2.2))))).2.2.2.2.2.2)))))).2.2.2.1++[al (((a.1,(a.2.1,(a.2.2.1,(a.2.2.2.1,((a.2.2.2.2.1++b),a.2.2.2.2.2))))).1,((a.1,(a.2.1,(a.2.2.1,(a.2.2.2.1,((a.2.2.2.2.1++b),a.2.2.2.2.2))))).2.1,((a.1,(a.2.1,(a.2.2.1,(a.2.2.2.1,((a.2.2.2.2.1++b),a.2.2.2.2.2))))).2.2.1,((a.1,(a.2.1,(a.2.2.1,(a.2.2.2.1,((a.2.2.2.2.1++b),a.2.2.2.2.2))))).2.2.2.1,((a.1,(a.2.1,(a.2.2.1,(a.2.2.2.1,((a.2.2.2.2.1++b),a.2.2.2.2.2))))).2.2.2.2.1,(((a.1,(a.2.1,(a.2.2.1,(a.2.2.2.1,((a.2.2.2.2.1++b),a.2.2.2.2.2))))).2.2.2.2.2.1++g),(a.1,(a.2.1,(a.2.2.1,(a.2.2.2.1,((a.2.2.2.2.1++b),a.2.2.2.2.2))))).2.2.2.2.2.2)))))).2.2.2.2.1)]),((a.1,(a.2.1,(a.2.2.1,(a.2.2.2.1,((a.2.2.2.2.1++b),a.2.2.2.2.2))))).1,((a.1,(a.2.1,(a.2.2.1,(a.2.2.2.1,((a.2.2.2.2.1++b),a.2.2.2.2.2))))).2.1,((a.1,(a.2.1,(a.2.2.1,(a.2.2.2.1,((a.2.2.2.2.1++b),a.2.2.2.2.2))))).2.2.1,((a.1,(a.2.1,(a.2.2.1,(a.2.2.2.1,((a.2.2.2.2.1++b),a.2.2.2.2.2))))).2.2.2.1,((a.1,(a.2.1,(a.2.2.1,(a.2.2.2.1,((a.2.2.2.2.1++b),a.2.2.2.2.2))))).2.2.2.2.1,(((a.1,(a.2.1,(a.2.2.1,(a.2.2.2.1,((a.2.2.2.2.1++b),a.2.2.2.2.2))))).2.2.2.2.2.1++g),(a.1,(a.2.1,(a.2.2.1,(a.2.2.2.1,((a.2.2.2.2.1++b),a.2.2.2.2.2))))).2.2.2.2.2.2)))))).2.2.2.2)))),())) else
 Y (.inr (U,H,E,()))) (0,T,ce,D,())).bind λ(d5,cv,bl,_)=>Y (.inl (aP k,d5,cv,bl,())) else Y (.inr (T,D,()))) (0,d7,c2,bx,())).bind λ(_,bs,_)=>Y (bs,())
def w1:(lZ×aA×bm qL×bt)->bv (eG×Z×bt):=λ(n,g,d,_)=>(Dn (n,g,d,())).bind λ(A,_)=>(bif A !=0 then Y ((([]:aA),(([]:aA),(([]:aA),(([]:aA),(([]:aA),(([]:aA),((0:Z),()))))))),A,()) else((loop (σ:=(Z×bA×Z×eG×bm de×bm hd×bt)) (ρ:=((Z×eG×bm hd×bt)⊕(eG×Z×bt))) (λ(o,F,c,B,p,u,_)=>bif br (c<al d) then(Dr (n,g,d,c,p,())).bind λ(w,_)=>bif br (al w.1>64) then Y (.inr (.inr ((([]:aA),(([]:aA),(([]:aA),(([]:aA),(([]:aA),(([]:aA),((0:Z),()))))))),6,()))) else(loop (σ:=(bA×eG×bm de×bm hd×de×bt)) (ρ:=(bA×eG×bm de×bm hd×de×bt)) (λ(h,k,e,i,a,_)=>bif !h then(zG (a,())).bind λ(x,K,_)=>bB (α:=(bA×eG×bm de×bm hd×de×bt)) (bif !K then Y (bp,k,e,i,a,()) else
 Y (h,k,e,i,a,())) λ(r,l,f,j,b,_)=>bw (al x==0) (Y (.inr (r,l,f,j,b,()))) ((w2 (b,x,())).bind λ(y,z,L,_)=>bB (α:=(bA×eG×bm de×bm hd×de×de×hd×bt)) (bw (!L) (Y (bp,l,f,j,b,y,z,())) (Y (r,l,f,j,b,y,z,()))) λ(E,N,D,v,_,P,t,_)=>(cD (v.length+([t]).length)).bind λ_=>Y (.inl (E,N,D,(v++[t]),P,()))) else Y (.inr (h,k,e,i,a,()))) (F,B,p,u,w,())).bind λ(s,O,q,G,m,_)=>bw s (Y (.inr (.inr ((([]:aA),(([]:aA),(([]:aA),(([]:aA),(([]:aA),(([]:aA),((0:Z),()))))))),233,())))) ((cD (q.length+([m]).length)).bind λ_=>Y (.inl (ay (o+m.2.1),s,aP c,O,(q++[m]),G,()))) else
 Y (.inr (.inl (o,B,u,())))) (0,bq,0,([],([],([],([],([],([],((0:Z),()))))))),[],[],())).bind λI=>match I with
 |.inl (C,_,H,_)=>((Ds (g,H,C,())).bind λ(M,_)=>Y (M,0,()))
 |.inr J=>Y J))
def CV:(eG×eG×bt)->bv kv:=λ(a,b,_)=>(qX (a.1,b.1,())).bind λ(c,_)=>(bw (c==bp) ((qX (a.2.1,b.2.1,())).bind λ(aJ,_)=>bw (aJ==bp) ((zl (a.2.2.1,b.2.2.1,())).bind λ(d,_)=>bw (d==bp) ((qX (a.2.2.2.1,b.2.2.2.1,())).bind λ(e,_)=>bw (e==bp) ((qX (a.2.2.2.2.1,b.2.2.2.2.1,())).bind λ(f,_)=>bw (f==bp) ((zl (a.2.2.2.2.2.1,b.2.2.2.2.2.1,())).bind λ(g,_)=>bw (g==bp) (Y ((a.2.2.2.2.2.2.1==b.2.2.2.2.2.2.1),())) (Y (bq,()))) (Y (bq,()))) (Y (bq,()))) (Y (bq,()))) (Y (bq,()))) (Y (bq,())))
def L3:bt->bv (lZ×bt):=λ_=>Y ((2,(2,([0,1,1],([1],([4607182418800017408],()))))),())
def Cr:jB->bv kv:=λ(a,_)=>(fY (al a) (al a)).bind λg=>(loop (σ:=(Z×fE×bt)) (ρ:=(bt⊕kv)) (λ(e,f,_)=>bif br (e<al a) then(bB (α:=(fE×bt)⊕((Z×fE×bt)⊕(bt⊕kv))) ((ao a e).bind λd=>bB (α:=(fE×bt)⊕((fE×bt)⊕((Z×fE×bt)⊕(bt⊕kv)))) (bw (br (d<0)==bq) (bw (br (d>=al a)==bq) (rd f d λj=>bw j (Y (.inr (.inr (.inr (.inr (bq,())))))) (Y (.inl (f,())))) (Y (.inr (.inr (.inr (.inr (bq,()))))))) (Y (.inr (.inr (.inr (.inr (bq,()))))))) λb=>match b with
 |.inl (i,_)=>(wr i d bp λk=>Y (.inl (k,())))
 |.inr c=>Y c) λb=>match b with
 |.inl (h,_)=>(Y (.inl (aP e,h,())))
 |.inr c=>Y c) else Y (.inr (.inl ()))) (0,bJ g bq,())).bind λb=>match b with
 |.inl _=>(Y (bp,()))
 |.inr c=>Y c
def Cs:(eG×bt)->bv (aA×bA×bt):=λ(b,_)=>(loop (σ:=(Z×Z×Z×aA×bt)) (ρ:=((Z×Z×aA×bt)⊕(aA×bA×bt))) (λ(a,h,g,e,_)=>bif br (g<al b.2.1) then(bB (α:=(Z×Z×aA×bt)⊕((Z×Z×Z×aA×bt)⊕((Z×Z×aA×bt)⊕(aA×bA×bt)))) ((ao b.2.1 g).bind λf=>bB (α:=jB⊕((Z×Z×aA×bt)⊕((Z×Z×Z×aA×bt)⊕((Z×Z×aA×bt)⊕(aA×bA×bt))))) (bB (α:=(bA×aA×bt)) (bw ((f !=1)==bp) (bw ((f !=2)==bq) (Y (br (a>=al b.1),e,())) (Y (bp,e,()))) (Y (br (a>=al b.1),e,()))) λ(q,o,_)=>bw q (Y (.inr (.inr (.inr (.inr ([],bq,())))))) (Y (.inl (o,())))) λc=>match c with
 |.inl (i,_)=>((cD (i.length+([a]).length)).bind λ_=>Y (.inl (ay (a+f),ay (h+ay (ay (2*f)-1)),(i++[a]),())))
 |.inr d=>Y d) λc=>match c with
 |.inl (k,m,p,_)=>(Y (.inl (k,m,aP g,p,())))
 |.inr d=>Y d) else Y (.inr (.inl (a,h,e,())))) (0,0,0,[],())).bind λc=>match c with
 |.inl (l,n,j,_)=>(bw ((l==al b.1)==bp) (Y (j,(n==al b.2.2.1),())) (Y (j,bq,())))
 |.inr d=>Y d
def Cj:(eG×aA×bt)->bv kv:=λ(a,j,_)=>bB (α:=bt⊕kv) ((ao a.2.2.2.1 0).bind λt=>bw ((t !=0)==bq) ((ao a.2.2.2.1 (al a.1)).bind λu=>bw (u !=al a.2.2.2.2.1) (Y (.inr (bq,()))) (Y (.inl ()))) (Y (.inr (bq,())))) λb=>match b with
 |.inl _=>((loop (σ:=eV) (ρ:=(bt⊕kv)) (λ(f,_)=>bif br (f<al j) then((ao j f).bind λi=>(ao a.2.1 f).bind λm=>(loop (σ:=eV) (ρ:=(bt⊕(eV⊕(bt⊕kv)))) (λ(d,_)=>bif br (d<=ay (ay (i+m)-1)) then(bB (α:=bt⊕pI) (bB (α:=bt⊕(bt⊕pI)) ((ao a.2.2.2.1 d).bind λv=>(ao a.2.2.2.1 (aP d)).bind λp=>bw (br (v>p)==bq) ((ao a.2.2.2.1 (aP d)).bind λq=>bw (br (q>al a.2.2.2.2.1)) (Y (.inr (.inr (.inr (.inr (.inr (.inr (bq,())))))))) (Y (.inl ()))) (Y (.inr (.inr (.inr (.inr (.inr (.inr (bq,()))))))))) λb=>match b with
 |.inl _=>((ao a.2.2.2.1 d).bind λr=>(ao a.2.2.2.1 (aP d)).bind λs=>((gv r).bind λk=>(gv s).bind λl=>(g9 k l (a.2.2.2.2.1).length).map λ_=>(k,l)).bind λe=>(loop (σ:=we) (ρ:=(bt⊕(bt⊕pI))) (λ(n,g,_)=>bif br (g<al (((a.2.2.2.2.1).take e.2).drop e.1)) then(bB (α:=eV⊕(we⊕(bt⊕(bt⊕pI)))) ((ao (((a.2.2.2.2.1).take e.2).drop e.1) g).bind λh=>bB (α:=bt⊕(eV⊕(we⊕(bt⊕(bt⊕pI))))) (bw (br (h<=n)==bq) (bw (br (h>=al a.1)) (Y (.inr (.inr (.inr (.inr (.inr (.inr (.inr (.inr (.inr (bq,()))))))))))) (Y (.inl ()))) (Y (.inr (.inr (.inr (.inr (.inr (.inr (.inr (.inr (.inr (bq,())))))))))))) λb=>match b with
 |.inl _=>(Y (.inl (h,())))
 |.inr c=>Y c) λb=>match b with
 |.inl (o,_)=>(Y (.inl (o,aP g,())))
 |.inr c=>Y c) else Y (.inr (.inl ()))) (ay (ay (i+m)-1),0,())).bind λb=>match b with
 |.inl _=>(Y (.inl ()))
 |.inr c=>Y c)
 |.inr c=>Y c) λb=>match b with
 |.inl _=>(Y (.inl (aP d,())))
 |.inr c=>Y c) else Y (.inr (.inl ()))) (i,())).bind λb=>match b with
 |.inl _=>(Y (.inl (aP f,())))
 |.inr c=>Y c) else Y (.inr (.inl ()))) (0,())).bind λb=>match b with
 |.inl _=>(Y (bp,()))
 |.inr c=>Y c)
 |.inr c=>Y c
def y9:(eG×bt)->bv (e1×bt):=λ(c,_)=>(loop (σ:=(Z×Z×e1×bt)) (ρ:=(e1×bt)) (λ(k,d,f,_)=>bw (br (d<al c.2.1)) ((ao c.2.1 d).bind λn=>(loop (σ:=(Z×Z×e1×gh×bt)) (ρ:=(Z×e1×gh×bt)) (λ(a,j,g,b,_)=>bw (br (j<ay (ay (2*n)-1))) ((ao c.2.2.1 a).bind λo=>(jW (o,())).bind λ(i,_)=>(cD (b.length+([i]).length)).bind λ_=>Y (.inl (aP a,aP j,g,(b++[i]),()))) (Y (.inr (a,g,b,())))) (k,0,f,[],())).bind λ(l,h,e,_)=>(cD (h.length+([e]).length)).bind λ_=>Y (.inl (l,aP d,(h++[e]),()))) (Y (.inr (f,())))) (0,0,[],())).bind λ(m,_)=>Y (m,())
def Cf:(eG×bt)->bv eV:=λ(a,_)=>bB (α:=bt⊕eV) (bw (br (al a.1>200)) (Y (.inr (6,()))) ((Cr (a.1,())).bind λ(n,_)=>bw (!n) (Y (.inr (90,()))) (bw ((al a.2.2.2.1 !=aP (al a.1))==bq) (bw (al a.2.2.2.2.1 !=al a.2.2.2.2.2.1) (Y (.inr (2,()))) (Y (.inl ()))) (Y (.inr (2,())))))) λb=>match b with
 |.inl _=>((Cs (a,())).bind λ(q,aJ,_)=>bB (α:=bt⊕eV) (bw ((!aJ)==bq) (bw (br (a.2.2.2.2.2.2.1<0)==bq) ((Cj (a,q,())).bind λ(r,_)=>bw (!r) (Y (.inr (240,()))) (Y (.inl ()))) (Y (.inr (240,())))) (Y (.inr (240,())))) λb=>match b with
 |.inl _=>((loop (σ:=(Z×bm aA×bt)) (ρ:=(bt⊕eV)) (λ(g,j,_)=>bif br (g<al ([a.2.2.2.2.2.1,a.2.2.1])) then(rd j g λk=>(loop (σ:=(Z×bm aA×bt)) (ρ:=((bm aA×bt)⊕((Z×bm aA×bt)⊕(bt⊕eV)))) (λ(d,i,_)=>bw (br (d<al k)) ((ao k d).bind λu=>(ny (u,())).bind λ(m,_)=>bw (!m) (Y (.inr (.inr (.inr (.inr (4,())))))) (Y (.inl (aP d,i,())))) (Y (.inr (.inl (i,()))))) (0,j,())).bind λb=>match b with
 |.inl (s,_)=>(Y (.inl (aP g,s,())))
 |.inr c=>Y c) else Y (.inr (.inl ()))) (0,[a.2.2.2.2.2.1,a.2.2.1],())).bind λb=>match b with
 |.inl _=>((y9 (a,())).bind λ(h,_)=>(loop (σ:=(Z×e1×bt)) (ρ:=(bt⊕eV)) (λ(e,f,_)=>bif br (e<al h) then(bB (α:=(e1×bt)⊕((Z×e1×bt)⊕(bt⊕eV))) (rd f e λl=>bw ((al l==3)==bp) ((wM (l,())).bind λ(o,_)=>(mT (o,())).bind λ(p,_)=>bw (p==0) (Y (.inr (.inr (.inr (4,()))))) (Y (.inl (f,())))) (Y (.inl (f,())))) λb=>match b with
 |.inl (t,_)=>(Y (.inl (aP e,t,())))
 |.inr c=>Y c) else Y (.inr (.inl ()))) (0,h,())).bind λb=>match b with
 |.inl _=>(Y (0,()))
 |.inr c=>Y c)
 |.inr c=>Y c)
 |.inr c=>Y c)
 |.inr c=>Y c
def Ch:(eG×bt)->bv (oS×Z×bt):=λ(j,_)=>(Cf (j,())).bind λ(l,_)=>(bif l !=0 then Y (((0:Z),((0:Z),((0:Z),()))),l,()) else(y9 (j,())).bind λ(m,_)=>(loop (σ:=(Z×oS×oS×e1×bt)) (ρ:=(oS×oS×bt)) (λ(h,c,a,d,_)=>bif br (h<al m) then bB (α:=(oS×oS×e1×bt)) (rd d h λi=>(ao i 0).bind λv=>(mT (v,())).bind λ(k,_)=>bB (α:=(Z×oS×oS×e1×bt)⊕(oS×oS×e1×bt)) (bw (al i==3) ((wM (i,())).bind λ(r,_)=>(mT (r,())).bind λ(s,_)=>bw (br (s<0)) (Y (.inr (c,((aP a.1,a.2).1,((aP a.1,a.2).2.1,(ay ((aP a.1,a.2).2.2.1+1),(aP a.1,a.2).2.2.2))),d,()))) (Y (.inl (2,c,a,d,())))) (Y (.inl (1,c,a,d,())))) λp=>match p with
 |.inl (e,f,b,g,_)=>(bw (br (k<0)) (Y (f,(ay (b.1+e),b.2),g,())) (bw (br (k>0)) (Y (f,(b.1,(b.2.1,(ay (b.2.2.1+e),b.2.2.2))),g,())) (Y (f,(b.1,(ay (b.2.1+e),b.2.2)),g,()))))
 |.inr q=>Y q) λ(t,n,u,_)=>Y (.inl (aP h,t,n,u,())) else Y (.inr (c,a,()))) (0,((0:Z),((0:Z),((0:Z),()))),((0:Z),((0:Z),((0:Z),()))),m,())).bind λ(_,o,_)=>Y (o,0,()))
def Co:(c4×Z×Z×bt)->bv (c4×bm eE×Z×bt):=λ(a,j,k,_)=>(ze (Y a,())).bind λ(b,_)=>(jW (k,())).bind λ(c,_)=>(mT (c,())).bind λ(l,_)=>(bw (l==0) ((qV (1,())).bind λ(m,_)=>(GL (Y a,b,(),m,())).bind λ(n,d,e,_)=>bw (e !=0) (Y (a,[],e,())) ((oZ (d,c,())).bind λ(o,_)=>(pV (a,b,o,d,())).bind λ(h,_)=>Y (h,[n],0,()))) ((GM (Y a,b,(Y (Y a),Y j,()),c,())).bind λ(p,f,g,_)=>bw (g !=0) (Y (a,[],g,())) ((oZ (f,c,())).bind λ(q,_)=>(pV (a,b,q,f,())).bind λ(i,_)=>Y (i,[p],0,()))))
def zc:(Z×Z×Z×cV×cV×bv (bv c4)×bt)->bv (cV×bt):=λ(a,c,d,h,i,b,_)=>b.bind λo=>o.bind λp=>(ao p.2.2.2.1 a).bind λq=>(ao q c).bind λj=>(nw (j,h,())).bind λ(e,_)=>b.bind λk=>k.bind λl=>(ao l.2.2.2.1 a).bind λm=>(ao m d).bind λn=>(nw (n,i,())).bind λ(f,_)=>(wD (e,f,())).bind λ(g,_)=>Y (g,())
def Cm:(Z×bv (bv (bv c4)×bt)×ahT×ahT×bv gh×bt)->bv (cV×bt):=λ(b,c,d,e,a,_)=>c.bind λj=>d.bind λk=>e.bind λl=>a.bind λm=>(ao m 2).bind λg=>a.bind λh=>(ao h 1).bind λi=>(zc (b,k,l,g,i,j.1,())).bind λ(f,_)=>Y (f,())
def GN:(bv c4×aA×(bv (bv (bv c4)×bt)×ahT×ahT×bv gh×bt)×cV×bt)->bv (eE×gh×Z×bt):=λ(r,g,b,q,_)=>(loop (σ:=(Z×eE×eE×gh×bt)) (ρ:=((eE×eE×gh×bt)⊕(eE×gh×Z×bt))) (λ(f,i,a,e,_)=>bif br (f<al g) then(ao g f).bind λj=>(Cm (j,b.1,b.2.1,b.2.2.1,b.2.2.2.1,())).bind λ(o,_)=>(so (o,q,0,())).bind λ(c,_)=>(ny (c,())).bind λ(p,_)=>bw (!p) (Y (.inr (.inr (a,[],233,())))) (r.bind λs=>(ao s.1 j).bind λd=>(cD ((a.1).length+([d]).length)).bind λ_=>(cD ((a.2.1).length+([c]).length)).bind λ_=>(jW (c,())).bind λ(h,_)=>(cD (e.length+([h]).length)).bind λ_=>Y (.inl (aP f,i,(((a.1++[d]),a.2).1,((((a.1++[d]),a.2).2.1++[c]),((a.1++[d]),a.2).2.2)),(e++[h]),()))) else
 Y (.inr (.inl (i,a,e,())))) (0,([],([],())),([],([],())),[],())).bind λm=>match m with
 |.inl (_,k,l,_)=>(Y (k,l,0,()))
 |.inr n=>Y n
def Cn:(Z×bv (bv (bv c4)×bt)×ahT×ahT×bv gh×bt)->bv (cV×bt):=λ(b,c,d,e,a,_)=>c.bind λj=>d.bind λk=>e.bind λl=>a.bind λm=>(ao m 0).bind λg=>a.bind λh=>(ao h 1).bind λi=>(zc (b,k,l,g,i,j.1,())).bind λ(f,_)=>Y (f,())
def GO:(bv c4×aA×(bv (bv (bv c4)×bt)×ahT×ahT×bv gh×bt)×cV×bt)->bv (eE×gh×Z×bt):=λ(r,g,b,q,_)=>(loop (σ:=(Z×eE×eE×gh×bt)) (ρ:=((eE×eE×gh×bt)⊕(eE×gh×Z×bt))) (λ(f,i,a,e,_)=>bif br (f<al g) then(ao g f).bind λj=>(Cn (j,b.1,b.2.1,b.2.2.1,b.2.2.2.1,())).bind λ(o,_)=>(so (o,q,0,())).bind λ(c,_)=>(ny (c,())).bind λ(p,_)=>bw (!p) (Y (.inr (.inr (a,[],233,())))) (r.bind λs=>(ao s.1 j).bind λd=>(cD ((a.1).length+([d]).length)).bind λ_=>(cD ((a.2.1).length+([c]).length)).bind λ_=>(jW (c,())).bind λ(h,_)=>(cD (e.length+([h]).length)).bind λ_=>Y (.inl (aP f,i,(((a.1++[d]),a.2).1,((((a.1++[d]),a.2).2.1++[c]),((a.1++[d]),a.2).2.2)),(e++[h]),()))) else
 Y (.inr (.inl (i,a,e,())))) (0,([],([],())),([],([],())),[],())).bind λm=>match m with
 |.inl (_,k,l,_)=>(Y (k,l,0,()))
 |.inr n=>Y n
def zb:(c4×Z×Z×aA×bt)->bv (c4×bm eE×Z×bt):=λ(a,i,m,h,_)=>(ze (Y a,())).bind λ(e,_)=>(ao h 0).bind λx=>(jW (x,())).bind λ(b,_)=>(ao h 1).bind λy=>(jW (y,())).bind λ(c,_)=>(ao h 2).bind λz=>(jW (z,())).bind λ(d,_)=>(wM ([b,c,d],())).bind λ(j,_)=>(GN (Y a,e,(Y (Y (Y a),()),Y i,Y m,Y [b,c,d],()),j,())).bind λ(r,f,k,_)=>(bif k !=0 then Y (a,[],k,()) else(GO (Y a,e,(Y (Y (Y a),()),Y m,Y i,Y [b,c,d],()),j,())).bind λ(s,g,l,_)=>bif l !=0 then Y (a,[],l,()) else(ao [b,c,d] 0).bind λA=>(oZ (f,A,())).bind λ(t,_)=>(pV (a,e,t,f,())).bind λ(n,_)=>(ao [b,c,d] 1).bind λB=>(oZ (f,B,())).bind λ(u,_)=>
 (pV (n,e,u,g,())).bind λ(o,_)=>(ao [b,c,d] 1).bind λC=>(oZ (g,C,())).bind λ(v,_)=>(pV (o,e,v,f,())).bind λ(p,_)=>(ao [b,c,d] 2).bind λD=>(oZ (g,D,())).bind λ(w,_)=>(pV (p,e,w,g,())).bind λ(q,_)=>Y (q,[r,s],0,()))
def Cu:((bv (Z×((bm aA×bt)×(bm (bv (bm (Z×cV)×X))×bt)))×(aA×(aA×(aA×(bm eE×eV)))))×c4×aA×bt)->bv ((bv (Z×((bm aA×bt)×(bm (bv (bm (Z×cV)×X))×bt)))×(aA×(aA×(aA×(bm eE×eV)))))×c4×Z×bt):=λ(C,D,b,_)=>(loop (σ:=(Z×(bv (Z×((bm aA×bt)×(bm (bv (bm (Z×cV)×X))×bt)))×(aA×(aA×(aA×(bm eE×eV)))))×c4×aA×bt)) (ρ:=((bv (Z×((bm aA×bt)×(bm (bv (bm (Z×cV)×X))×bt)))×(aA×(aA×(aA×(bm eE×eV)))))×c4×aA×bt)) (λ(d,o,r,l,_)=>bif br (d<al b) then(loop (σ:=(Z×(bv (Z×((bm aA×bt)×(bm (bv (bm (Z×cV)×X))×bt)))×(aA×(aA×(aA×(bm eE×eV)))))×c4×aA×bt)) (ρ:=((bv (Z×((bm aA×bt)×(bm (bv (bm (Z×cV)×X))×bt)))×(aA×(aA×(aA×(bm eE×eV)))))×c4×aA×bt)) (λ(i,p,j,h,_)=>bif br (i<aP d) then(ao b d).bind λF=>
 (ao b i).bind λG=>(sr (Y j,F,G,())).bind λ(n,_)=>(cD (h.length+([n]).length)).bind λ_=>Y (.inl (aP i,p,j,(h++[n]),())) else Y (.inr (p,j,h,()))) (0,o,r,l,())).bind λ(g,e,u,_)=>(ao b d).bind λH=>(bj (e.2.2.1).length H).bind λm=>((((a9 e.2.2.1 m λ_=>Y ((e.2.2.1).set m bq)).map λN=>(N,e.2.2.2)).map λO=>(e.2.1,O)).map λP=>(e.1,P)).bind λt=>(ao b d).bind λI=>rd t.1 I λs=>(cD ((g.2.1).length+([s]).length)).bind λ_=>Y (.inl (aP d,(g.1,((g.2.1++[s]),g.2.2)),t,u,())) else Y (.inr (o,r,l,()))) (0,C,D,[],())).bind λ(a,q,f,_)=>(cD ((a.2.2.1).length+([al b]).length)).bind λ_=>(cD (((a.1,(a.2.1,((a.2.2.1++[al b]),a.2.2.2))).2.2.2.1).length+f.length)).bind λ_=>bB (α:=(Z×bm eE×(bv (Z×((bm aA×bt)×(bm (bv (bm (Z×cV)×X))×bt)))×(aA×(aA×(aA×(bm eE×eV)))))×c4×bt)) (bw (al b==1) ((ao b 0).bind λJ=>rd f 0 λK=>(Co (q,J,K,())).bind λ(w,y,z,_)=>Y (z,y,((a.1,(a.2.1,((a.2.2.1++[al b]),a.2.2.2))).1,((a.1,(a.2.1,((a.2.2.1++[al b]),a.2.2.2))).2.1,((a.1,(a.2.1,((a.2.2.1++[al b]),a.2.2.2))).2.2.1,(((a.1,(a.2.1,((a.2.2.1++[al b]),a.2.2.2))).2.2.2.1++f),(a.1,(a.2.1,((a.2.2.1++[al b]),a.2.2.2))).2.2.2.2)))),w,())) ((ao b 0).bind λL=>(ao b 1).bind λM=>(zb (q,L,M,f,())).bind λ(x,A,B,_)=>Y (B,A,((a.1,(a.2.1,((a.2.2.1++[al b]),a.2.2.2))).1,((a.1,(a.2.1,((a.2.2.1++[al b]),a.2.2.2))).2.1,((a.1,(a.2.1,((a.2.2.1++[al b]),a.2.2.2))).2.2.1,(((a.1,(a.2.1,((a.2.2.1++[al b]),a.2.2.2))).2.2.2.1++f),(a.1,(a.2.1,((a.2.2.1++[al b]),a.2.2.2))).2.2.2.2)))),x,()))) λ(v,k,c,E,_)=>(cD ((c.2.2.2.2.1).length+k.length)).bind λ_=>Y ((c.1,(c.2.1,(c.2.2.1,(c.2.2.2.1,((c.2.2.2.2.1++k),c.2.2.2.2.2))))),E,v,())
def Cw:((bv (Z×((bm aA×bt)×(bm (bv (bm (Z×cV)×X))×bt)))×(aA×(aA×(aA×(bm eE×eV)))))×c4×bt)->bv ((bv (Z×((bm aA×bt)×(bm (bv (bm (Z×cV)×X))×bt)))×(aA×(aA×(aA×(bm eE×eV)))))×c4×Z×bt):=λ(n,s,_)=>(loop (σ:=((bv (Z×((bm aA×bt)×(bm (bv (bm (Z×cV)×X))×bt)))×(aA×(aA×(aA×(bm eE×eV)))))×c4×bt)) (ρ:=(((bv (Z×((bm aA×bt)×(bm (bv (bm (Z×cV)×X))×bt)))×(aA×(aA×(aA×(bm eE×eV)))))×c4×bt)⊕((bv (Z×((bm aA×bt)×(bm (bv (bm (Z×cV)×X))×bt)))×(aA×(aA×(aA×(bm eE×eV)))))×c4×Z×bt))) (λ(d,c,_)=>(Cl (Y c,())).bind λ(h,i,_)=>bw (i !=0) (Y (.inr (.inr (d,c,i,())))) (bw (al h==0) (Y (.inr (.inl (d,c,())))) ((Cu (d,c,h,())).bind λ(f,g,j,_)=>bw (j !=0) (Y (.inr (.inr (f,g,j,())))) (Y (.inl (f,g,())))))) (n,s,())).bind λl=>match l with
 |.inl (o,k,_)=>((loop (σ:=(Z×(bv (Z×((bm aA×bt)×(bm (bv (bm (Z×cV)×X))×bt)))×(aA×(aA×(aA×(bm eE×eV)))))×c4×bt)) (ρ:=((bv (Z×((bm aA×bt)×(bm (bv (bm (Z×cV)×X))×bt)))×(aA×(aA×(aA×(bm eE×eV)))))×c4×bt)) (λ(e,a,b,_)=>bw (br (e<k.2.1)) (bB (α:=((bv (Z×((bm aA×bt)×(bm (bv (bm (Z×cV)×X))×bt)))×(aA×(aA×(aA×(bm eE×eV)))))×c4×bt)) (rd b.2.2.1 e λu=>bw u (Y ((a.1,(a.2.1,(a.2.2.1,(a.2.2.2.1,(a.2.2.2.2.1,(aP a.2.2.2.2.2.1,a.2.2.2.2.2.2)))))),b,())) (Y (a,b,()))) λ(p,r,_)=>Y (.inl (aP e,p,r,()))) (Y (.inr (a,b,())))) (0,o,k,())).bind λ(q,t,_)=>Y (q,t,0,()))
 |.inr m=>Y m
def uv:(lZ×aA×bm qL×bt)->bv (eG×Z×bt):=λ(x,o,b,_)=>(w6 (x,o,())).bind λ(i,p,_)=>(bif p !=0 then Y ((([]:aA),(([]:aA),(([]:aA),(([]:aA),(([]:aA),(([]:aA),((0:Z),()))))))),p,()) else i.bind λM=>(uJ (M.2.1,b,())).bind λ(q,_)=>bif q !=0 then Y ((([]:aA),(([]:aA),(([]:aA),(([]:aA),(([]:aA),(([]:aA),((0:Z),()))))))),q,()) else(CI (b,(),())).bind λ(E,_)=>bif E then Y ((([]:aA),(([]:aA),(([]:aA),(([]:aA),(([]:aA),(([]:aA),((0:Z),()))))))),6,()) else((fY (al b) (al b)).bind λD=>(loop (σ:=(Z×eG×(bv (Z×((bm aA×bt)×(bm (bv (bm (Z×cV)×X))×bt)))×(aA×(aA×(aA×(bm eE×eV)))))×bm (bm (bv c4))×bt)) (ρ:=((eG×(bv (Z×((bm aA×bt)×(bm (bv (bm (Z×cV)×X))×bt)))×(aA×(aA×(aA×(bm eE×eV)))))×bt)⊕(eG×Z×bt))) (λ(d,k,j,e,_)=>
 bif br (d<al b) then(bB (α:=(eG×(bv (Z×((bm aA×bt)×(bm (bv (bm (Z×cV)×X))×bt)))×(aA×(aA×(aA×(bm eE×eV)))))×bm (bm (bv c4))×bt)⊕((Z×eG×(bv (Z×((bm aA×bt)×(bm (bv (bm (Z×cV)×X))×bt)))×(aA×(aA×(aA×(bm eE×eV)))))×bm (bm (bv c4))×bt)⊕((eG×(bv (Z×((bm aA×bt)×(bm (bv (bm (Z×cV)×X))×bt)))×(aA×(aA×(aA×(bm eE×eV)))))×bt)⊕(eG×Z×bt)))) ((ao b d).bind λl=>rd e d λw=>(Ci (i,l,w,())).bind λ(r,s,_)=>bB (α:=(Z×eG×(bv (Z×((bm aA×bt)×(bm (bv (bm (Z×cV)×X))×bt)))×(aA×(aA×(aA×(bm eE×eV)))))×bm (bm (bv c4))×qL×c4×bt)) (bw (s==0) ((Cw (j,r,())).bind λ(B,C,F,_)=>Y (F,k,B,e,l,C,())) (Y (s,k,j,e,l,r,()))) λ(m,u,t,a,f,v,_)=>bif m !=0 then
 Y (.inr (.inr (.inr ((([]:aA),(([]:aA),(([]:aA),(([]:aA),(([]:aA),(([]:aA),((0:Z),()))))))),m,())))) else bw (br (f.2.2.2.1>=0)) ((bj a.length f.2.2.2.1).bind λn=>(a9 a n λz=>Y z).bind λK=>(cD (K.length+([Y v]).length)).bind λ_=>(bj a.length f.2.2.2.1).bind λc=>bw (bH n c&&bp) ((a9 a c λA=>Y A).bind λL=>(a9 a c λ_=>Y (a.set c (L++[Y v]))).bind λN=>Y (.inl (u,t,N,()))) bo) (Y (.inl (u,t,a,())))) λg=>match g with
 |.inl (J,H,y,_)=>(Y (.inl (aP d,J,H,y,())))
 |.inr h=>Y h) else Y (.inr (.inl (k,j,())))) (0,([],([],([],([],([],([],((0:Z),()))))))),(i,(([]:aA),(([]:aA),(([]:aA),(([]:bm eE),((0:Z),())))))),bJ D [],())).bind λg=>match g with
 |.inl (_,I,_)=>((Cv (Y I,o,())).bind λ(G,_)=>Y (G,0,()))
 |.inr h=>Y h))
def CX:bt->bv kv:=λ_=>(L3 ()).bind λ(b,_)=>(uv (b,[0,1],[(0,(2,([0,1],((-1:Z),()))))],())).bind λ(a,c,_)=>(Ch (a,())).bind λ(aJ,d,_)=>(bw ((c==0)==bp) (bw ((d==0)==bp) ((qX (a.2.1,[2],())).bind λ(e,_)=>bw (e==bp) (Y ((((aJ).1==(1,((0:Z),(1,()))).1)&&(((aJ).2.1==(1,((0:Z),(1,()))).2.1)&&(((aJ).2.2.1==(1,((0:Z),(1,()))).2.2.1)&&bp))),())) (Y (bq,()))) (Y (bq,()))) (Y (bq,())))
def G2:(aA×Z×Z×bA×bt)->bv kv:=λ(j,r,B,A,_)=>(su (r,7,())).bind λ(f,_)=>(su (B,3,())).bind λ(y,_)=>(CT (j,f,f,y,())).bind λ(z,_)=>(loop (σ:=(Z×lZ×lZ×bt)) (ρ:=(lZ×bt)) (λ(b,l,k,_)=>bif br (b<f) then rd l.2.2.1 b λC=>(loop (σ:=(Z×lZ×lZ×bt)) (ρ:=(lZ×lZ×bt)) (λ(g,c,a,_)=>rd c.2.2.1 (aP b) λD=>bif br (g<D) then bB (α:=(lZ×lZ×bt)) (rd c.2.2.2.1 g λE=>bif E !=b then rd c.2.2.2.1 g λe=>(cD ((a.2.2.2.1).length+([e]).length)).bind λ_=>rd c.2.2.2.2.1 g λn=>(cD ((a.2.2.2.2.1).length+([n]).length)).bind λ_=>Y (c,((a.1,(a.2.1,(a.2.2.1,((a.2.2.2.1++[e]),a.2.2.2.2)))).1,((a.1,(a.2.1,(a.2.2.1,((a.2.2.2.1++[e]),a.2.2.2.2)))).2.1,((a.1,(a.2.1,(a.2.2.1,((a.2.2.2.1++[e]),a.2.2.2.2)))).2.2.1,((a.1,(a.2.1,(a.2.2.1,((a.2.2.2.1++[e]),a.2.2.2.2)))).2.2.2.1,(((a.1,(a.2.1,(a.2.2.1,((a.2.2.2.1++[e]),a.2.2.2.2)))).2.2.2.2.1++[n]),(a.1,(a.2.1,(a.2.2.1,((a.2.2.2.1++[e]),a.2.2.2.2)))).2.2.2.2.2))))),()) else
 bw A ((cD ((a.2.2.2.1).length+([b]).length)).bind λ_=>(cD ((a.2.2.2.2.1).length+([0]).length)).bind λ_=>Y (c,((a.1,(a.2.1,(a.2.2.1,((a.2.2.2.1++[b]),a.2.2.2.2)))).1,((a.1,(a.2.1,(a.2.2.1,((a.2.2.2.1++[b]),a.2.2.2.2)))).2.1,((a.1,(a.2.1,(a.2.2.1,((a.2.2.2.1++[b]),a.2.2.2.2)))).2.2.1,((a.1,(a.2.1,(a.2.2.1,((a.2.2.2.1++[b]),a.2.2.2.2)))).2.2.2.1,(((a.1,(a.2.1,(a.2.2.1,((a.2.2.2.1++[b]),a.2.2.2.2)))).2.2.2.2.1++[0]),(a.1,(a.2.1,(a.2.2.1,((a.2.2.2.1++[b]),a.2.2.2.2)))).2.2.2.2.2))))),())) (Y (c,a,()))) λ(p,o,_)=>Y (.inl (aP g,p,o,())) else Y (.inr (c,a,()))) (C,l,k,())).bind λ(q,d,_)=>(cD ((d.2.2.1).length+([al d.2.2.2.1]).length)).bind λ_=>Y (.inl (aP b,q,(d.1,(d.2.1,((d.2.2.1++[al d.2.2.2.1]),d.2.2.2))),())) else Y (.inr (k,()))) (0,z,(f,(f,([0],(([]:aA),(([]:aA),()))))),())).bind λ(h,_)=>(CU (j,f,())).bind λ(i,_)=>
 (zj (h,i,j,())).bind λ(m,_)=>(uv (h,i,m,())).bind λ(s,t,_)=>(w1 (h,i,m,())).bind λ(u,v,_)=>(bw ((t==v)==bp) ((CV (s,u,())).bind λ(w,_)=>bw (w==bp) ((CX ()).bind λ(x,_)=>Y (x,())) (Y (bq,()))) (Y (bq,())))
end Go.jf
section
namespace Go.Proofs
open Go.RowKit Go.Shelf Go.Sort
attribute [local go_sem] Oper.semAt_some
def Tryz.Wr:Go.Shelf.Ren:=⟨λ|20=>295|n=>n,λ|22=>23|3=>3|4=>4|0=>0|n=>n,λ|n=>n⟩
def Tryz.Nw:Lays2.n20 cp Tryz.Wr where
 mixed:=by kernel_rfl
 f20:=Tryz.func295.trans (b3 Y (by kernel_rfl))
 t0:=Tryz.underlying0
 a0:=Tryz.isAgg0
 z0:=Tryz.sizeOf0
 v0:=Tryz.zeroValue0
 t3:=Tryz.underlying3
 a3:=Tryz.isAgg3
 z3:=Tryz.sizeOf3
 v3:=Tryz.zeroValue3
 t4:=Tryz.underlying4
 a4:=Tryz.isAgg4
 z4:=Tryz.sizeOf4
 v4:=Tryz.zeroValue4
 t22:=amy
 a22:=Tryz.isAgg23
 z22:=Tryz.sizeOf23
 v22:=Tryz.zeroValue23
 i3:=by kernel_rfl
namespace KO
def mH {a:Type} (b:X->a) (c:X):bm a:=(bI c).map b
def Rl {c:Type} (a:X->c) (b:X):mH a (b+1)=mH a b++[a b]:=by simp[mH,i5]
def ad2 {c:Type} (b:X->c) (a:X):(mH b a).length=a:=by simp[mH]
def ad1 (a:ahZ):mH (λc=>a[c]?.getD 0) a.length=a:=by
 apply yl
 ·simp[mH]
 intro e d b;simp[mH,b]
set_option maxRecDepth 100000 in
set_option maxHeartbeats 2000000 in
def aec (j:aiZ) (m:X) (A:j.fn 317) (K:j.round=bo) (T:1<=m) (v q n h k b x:X) (g:ahZ) (U:b*8<=140737488351232) (F:h<n) (J r:ahZ->bD->Prop) (E:∀e o c,J e c->e.length<b->YieldAt j (m-1) cp v #[.int .i64 o] c λi f=>
  (i=.returned (.bool bp)/\J (e++[o]) f/\Below n c f)\/(i=.returned (.bool bq)/\r (e++[o]) f))
 (c:bD) (Q:c.cell? ⟨q,0,bo⟩=Y (.slice (Y ⟨h,k,bo⟩) b x)) (G:∀d,d<b->c.cell? ⟨h,k+d,bo⟩=Y (.int .i64 (g[d]?.getD 0))) (z:J [] c):
 aiR j m cp 317 #[.func (.yield v) #[] #[],.pointer (Y ⟨q,0,bo⟩)] c λi f=>(∃L,i=.returned L)/\((∃w,w=mH (λd=>g[d]?.getD 0) b/\J w f)\/(∃e,(∃a,a<=b/\e=mH (λd=>g[d]?.getD 0) a)/\r e f)):=by
 refine ajG alI bn A ?_ K;simp only[amz,tN,iZ,oI,ajg,ajh,vL,vM,v2,vU,iu,nW]
 gi_wp2
 gi_loopw [7] (λl wr=>∃a:X,a<=b/\l=.int .i64 a/\J (mH (λd=>g[d]?.getD 0) a) wr/\Below n c wr) (λl _=>b-(intOf l).toNat)
 case atStart=>exact⟨0,c8 _,bn,z,aj1 _ _⟩
 case round=>
  obtain⟨a,S,rfl,s,u⟩:=hrel;have H:a<b->wr.cell? ⟨h,k+a,bo⟩=Y (.int .i64 (g[a]?.getD 0)):=λy=>(u.cell (p:=⟨h,k+a,bo⟩) F).trans (G a y);by_cases t:a<b
  ·obtain⟨P,ad,N,O,V,D⟩:=E _ (g[a]?.getD 0) wr s (by rw[ad2];exact t);have R:=H t
   gi_wp2
   refine D.mono ?_;rintro i M (⟨rfl,B,I⟩|⟨rfl,C⟩)
   ·gi_wp2
    go_roundw
    case rel=>exact⟨a+1,aa,ac,by rw[Rl];exact B,u.trans I⟩
    case measure=>simp[intOf];omega
   gi_wp2
   refine bodyPost_ret (results_none bn _ _ _) rfl ?_;exact⟨⟨_,bn⟩,.inr ⟨_,⟨a+1,aa,(Rl _ _).symm⟩,C⟩⟩
  obtain rfl:a=b:=by omega
  gi_wp2
  go_end0
  exact⟨⟨_,bn⟩,.inl ⟨_,bn,s⟩⟩
def ad3 (a:ahZ) {b:X} (d:b<=a.length):mH (λf=>a[f]?.getD 0) b=a.take b:=by
 apply yl
 ·simp[mH,d]
 intro e c g;have:e<a.length:=(by simp[mH] at c;omega);simp[mH,this]
def pt (i:X) (g:bD) (f:Value) (a:ahZ):Prop:=
 (∃h c,f=.slice h 0 c/\a=[])\/∃b e c,f=.slice (Y ⟨b,e,bo⟩) a.length c/\b<i/\∀d,d<a.length->g.cell? ⟨b,e+d,bo⟩=Y (.int .i64 (a[d]?.getD 0))
def pt.below {b:X} {c d:bD} (l:Below b c d) {i:Value} {j:ahZ}:pt b c i j->pt b d i j
 |.inl a=>.inl a
 |.inr ⟨e,h,k,a,f,m⟩=>.inr ⟨e,h,k,a,f,λg n=>(l.cell (p:=⟨e,h+g,bo⟩) f).trans (m g n)⟩
set_option maxRecDepth 100000 in
set_option maxHeartbeats 1000000 in
def aed (a:aiZ) (n:X) (i:a.fn 317) (k:a.round=bo) (m c:X) (e:bv Addr) (f:X) (J:ahZ->bD->Prop) (b:bD) (p:b.cell? ⟨c,0,bo⟩=Y (.slice e 0 f)) (h:J [] b):aiR a n cp 317 #[.func (.yield m) #[] #[],.pointer (Y ⟨c,0,bo⟩)] b λg d=>(∃o,g=.returned o)/\J [] d:=by
 refine ajG alI bn i ?_ k;simp only[amz,tN,iZ,oI,ajg,ajh,vL,vM,v2,vU,iu,nW]
 gi_wp2
 gi_loopw [7] (λl wr=>l=.int .i64 0/\J [] wr) (λ_ _=>0)
 case atStart=>exact⟨bn,h⟩
 case round=>
  obtain⟨rfl,j⟩:=hrel
  gi_wp2
  go_end0
  exact⟨⟨_,bn⟩,j⟩
set_option maxHeartbeats 1000000 in
def aee (a:aiZ) (i:X) (g:a.fn 297) (h:a.round=bo) (c:bv Addr) (e d:X) (b:bD):aiR a i cp 297 #[.slice c e d] b λf j=>f=.returned (.func (.func 317) #[] #[.pointer (Y ⟨b.heap.size,0,bo⟩)])/\j=b.alloc (.cells #[.slice c e d] 23):=by
 refine ajG Tryz.func297 bn g ?_ h;simp only[Tryz.ntmps297,tN,iZ,oI,ajg,ajh,vL,vM,v2,vU,iu,nW]
 gi_wp2
 go_ret
 exact⟨bn,bn⟩
def aef (c:aiZ) (g:X) (l:c.fn 317) (o:c.round=bo) (G:1<=g) (b h:X) (s:Value) (a:ahZ) (I:a.length*8<=140737488351232) (e:bD) (z:b<e.heap.size) (H:h<=e.heap.size) (D:e.cell? ⟨b,0,bo⟩=Y s) (A:pt h e s a):SeqStopsK c g cp 317 #[.pointer (Y ⟨b,0,bo⟩)] (λL:Z=>#[aie .i64 L]) (Below h) (λt=>t=a) (λr=>r<+:a) a.length e:=λq J u j m _ _ B k=>by
 have n:=(m.cell (p:=⟨b,0,bo⟩) z).trans D;rcases A.below (m.mono H) with⟨w,i,rfl,rfl⟩|⟨x,K,i,rfl,C,E⟩
 ·exact(aed c g l o q b w i J j n k).mono λy v ⟨f,d⟩=>⟨f,.inl ⟨_,bn,d⟩⟩
 refine(aec c g l o G q b h x K a.length i a I C J u B j n E k).mono ?_;rintro y v ⟨f,⟨t,rfl,d⟩|⟨r,⟨M,F,rfl⟩,d⟩⟩
 ·exact⟨f,.inl ⟨_,ad1 a,d⟩⟩
 exact⟨f,.inr ⟨_,by rw[ad3 a F];exact List.take_prefix _ _,d⟩⟩
def VW:(cp.info? 3).map (λa=>(a.zero,a.size,a.bytes))=Y (Y (.int .i64 0),1,8):=by kernel_rfl
set_option maxRecDepth 100000 in
set_option maxHeartbeats 2000000 in
def SO (g:aiZ) (m:X) (E:g.fn 331) (u:g.fn 317) (q:g.round=bo) (a4:3<=m) (e:X) (r:Value) (f:ahZ) (M:f.length*8<=140737488351232) (a:bD) (F:e<a.heap.size) (o:a.cell? ⟨e,0,bo⟩=Y r) (H:pt a.heap.size a r f):aiR g m cp 331 #[.slice bo 0 0,.func (.func 317) #[] #[.pointer (Y ⟨e,0,bo⟩)]] a λB t=>∃b,B=.returned b/\t.ownsRow a.heap.size 3 1 b f.length (f.map (aie .i64))/\(b=.slice bo 0 0↔f=[])/\Below a.heap.size a t:=by
 have D:1<=m:=aa;obtain⟨S,J,P,Q,R⟩:=info_parts VW;refine callsIn_of_wp_marks Tryz.func331 bn E ?_ q;simp only[Tryz.ntmps331,tN,iZ,oI,ajg,ajh,vL,vM,v2,vU,iu,nW]
 gi_wp2
 have A:=amA a 23 (.slice bo 0 0);have n:Below a.heap.size a (a.alloc (.cells #[.slice bo 0 0] 23)):=(aj1 _ a).alloc (bc _) _;refine wpIn_rangeFunc_ownG q D (gf:=317) (lb:=#[.pointer (Y ⟨e,0,bo⟩)]) rfl u (enters_of alI (by kernel_rfl) rfl) (aef g (m-1) u q aa e a.heap.size r f M _ (by simp;omega) ac ((n.cell (p:=⟨e,0,bo⟩) F).trans o) (H.below n)) belowK_t (belowK_b ac) (aj1 _ _) (λ_=>rfl) (λc d=>(∃b,Boxed d a.heap.size 23 b/\d.ownsRow a.heap.size 3 1 b c.length (c.map (aie .i64))/\(b=.slice bo 0 0↔c=[]))/\Below a.heap.size a d) (λ_ _ _=>b6) (OwnFrom.and (Own.from (holdsRow_own a.heap.size a.heap.size 23 3 1 (λc=>c.length) (λc=>c.map (aie .i64)) (λc b=>b=.slice bo 0 0↔c=[])) _) (ownFrom_below (bc _) ac)) (λ_ _ _ _ _ N _ _=>N) ⟨⟨_,A,World.ownsRow_nil _ _ _ _,ac⟩,n⟩ (λj=>{tmps:=#[.slice bo 0 0,.func (.func 317) #[] #[.pointer (Y ⟨e,0,bo⟩)],.pointer (Y ⟨a.heap.size,0,bo⟩),bW,.slice bo 0 0,.int .i64 j,.func (.func 317) #[] #[.pointer (Y ⟨e,0,bo⟩)],.int .i64 j,bW,bW,bW,bW,bW],defers:=[]}) ?assign ?body ?done ?stop
 case assign=>
  intro T j d U i
  gi_wp2
  exact i
 case body=>
  rintro T c j d ⟨⟨b,l,k,x⟩,h⟩ a3;have o:=l.cell;have a0:f.length<=maxLen:=(by simp only[maxLen];omega);have an:f.length*8<=140737488355328:=by omega
  gi_wp2_with (gi_at_builtin;refine wpListIn_append_own _ rfl _ _ 23 bn a.heap.size 3 S (.int .i64 0) 1 8 amy J P Q R bn ab _ _ _ rfl (k.alloc _) ⟨d.heap.size,0,bo⟩ 1 1 [.int .i64 j] rfl rfl (cell_one_new _ _ _) (by simp[aim]) aa aa (by have:=h.size;simp;omega) ?_;intro bl bs y I _;obtain⟨am,ad,rfl⟩:=ownsRow_succ y;obtain⟨z,O,L,K,v⟩:=l.appended ab k h.size (bc _) y I;have ap:=z.cell;have av:=z.frozen)
  exact⟨K.from _,v,⟨_,O,by simpa using L,ac⟩,h.trans v⟩
 case done=>
  rintro s bx d G rfl ⟨⟨b,l,k,x⟩,h⟩ i;have o:=l.cell
  gi_wp2
  refine⟨ac,.inl ⟨_,_,bn,run_takeDeferred i,?_⟩⟩;exact⟨_,results_tmp bn _ _ _,b,bn,ownsRow_putObj k _ i bn,x,h.trans (belowK_b (w:=a) (bc _) d s _ _ (by simp at G;omega) i bn rfl)⟩
 case stop=>
  rintro s V c d _ _ C _;exact C.elim
set_option maxHeartbeats 1000000 in
def TG (b:aiZ) (f:X) (m:b.fn 315) (k:b.fn 331) (l:b.fn 317) (j:b.round=bo) (v:4<=f) (e:X) (g:Value) (c:ahZ) (s:c.length*8<=140737488351232) (a:bD) (n:e<a.heap.size) (q:a.cell? ⟨e,0,bo⟩=Y g) (o:pt a.heap.size a g c):aiR b f cp 315 #[.func (.func 317) #[] #[.pointer (Y ⟨e,0,bo⟩)]] a λi h=>∃d,i=.returned d/\h.ownsRow a.heap.size 3 1 d c.length (c.map (aie .i64))/\(d=.slice bo 0 0↔c=[])/\Below a.heap.size a h:=by
 have u:1<=f:=aa;refine ajG Tryz.func315 bn m ?_ j;simp only[Tryz.ntmps315,tN,iZ,oI,ajg,ajh,vL,vM,v2,vU,iu,nW]
 gi_wp2_with (gi_at_call 331;refine(SO b (f-1) k l j aa e g c s _ n q o).mono ?_;rintro i w ⟨d,rfl,t,r,p⟩)
 go_ret
 exact⟨d,bn,t,r,p⟩
open Go.jf
theorem acc {M:eC->X->Prop} {f:bD} {k:X} {j:Value} {b:ahZ} (s:f.ownsRow k 3 1 j b.length (b.map (aie .i64))):∃d,aR M f (.osl (.int .i64)) [j] b d/\d.Nodup/\∀h∈d,k<=h/\h<f.heap.size:=by
 rcases s.2 with⟨rfl,t⟩|⟨e,l,i,rfl,w,q,u,A,v,m⟩
 ·obtain rfl:=qv t;exact⟨[],⟨bo,0,bn,.inl ⟨bn,bn,bn,bn⟩⟩,ac,ac⟩
 rw[ajy] at v m;have o:∀a,a<l->f.cell? ⟨e,a,bo⟩=Y (i[a]?.getD bW)/\f.frozen? ⟨e,a,bo⟩=bq:=λa c=>(by constructor<;>simp[ai9,aks,q,(aa:a<i.size)]);refine⟨[e],⟨Y ⟨e,0,bo⟩,l,bn,.inr ⟨e,0,bJ b.length [],bn,ac,ac,u,λa _ c=>?_,λg z d r p=>?_⟩⟩,ac,λh n=>?_⟩
 ·obtain⟨aw,y⟩:=o a (by simpa[aiq] using c);exact⟨by rw[aw];rfl,y⟩
 ·have x:g<b.length:=(hF.1 r).1;obtain rfl:d=[]:=by
   rw[List.getElem?_replicate] at p;split at p<;>simp_all
  refine⟨[.int .i64 z],bn,λa j c=>?_,bn,bn⟩;cases a with
  |succ a=>simp at c
  |zero=>
   simp only[qy,eR] at c;subst c;simp only[aiq,ajy,nf,nc];rw[(o g aa).1];have:(i.toList.take b.length)[g]?=(b.map (aie .i64))[g]?:=(by rw[m]);rw[rZ x,Bb,jg,r] at this;rw[this];rfl
 simp only[gd] at n;subst n;exact⟨w,(rR.1 q).1⟩
def VO {o:eC->X->Prop} {n:bD} {i:Value} {a:ahZ} {k:ahY} (g:aR o n (.osl (.int .i64)) [i] a k):(∃j b,i=.slice j 0 b/\a=[])\/∃c e b,i=.slice (Y ⟨c,e,bo⟩) a.length b/\a.length<=b/\Holds (aie .i64) n c e a.toArray/\k=[c]:=by
 obtain⟨j,b,m,g⟩:=g;simp only[hL,b9] at m;subst m;rcases g with⟨rfl,rfl,rfl,rfl⟩|⟨c,e,f,rfl,rfl,A,s,t,l⟩
 ·exact .inl ⟨bo,0,bn,bn⟩
 right;have u:f.flatten=[]:=by
  rw[List.flatten_eq_nil_iff];intro C x;obtain⟨h,B,rfl⟩:=ht.1 x;obtain⟨r,_,_,y⟩:=l h (a[h]'(by omega)) f[h] ac ac
  exact y.1
 refine⟨c,e,b,bn,s,λd v=>?_,by rw[u]⟩;have w:d<a.length:=(by simpa using v);obtain⟨r,z,p,_,q⟩:=l d a[d] (f[d]'(by omega)) ac ac
 subst q;have aw:=p 0 _ rfl;simp only[aiq,ajy,nc] at aw;exact⟨by rw[aw];simp[w],(t (e+d) aa (by simp only[aiq];omega)).2⟩
def FY (E:fB) (c:ahZ->es):Prop:=∀b a,c b=Y a->rS E 316 [.m ⟨.osl (.int .i64),b⟩ a] []
set_option maxRecDepth 100000 in
set_option maxHeartbeats 2000000 in
def ac6 (i:aiZ) (h:∀e,i.fn e) (z:i.round=bo) (O:∀(ap:X) (e:FuncId) (v:ahQ) (c:bD) (t:Ending->bD->Prop),Calls cp e v c t->aiR i ap cp e v c t) {E:fB} (I:E.P=cp) {C:ahZ->es} (am:FY E C) (k:X) (bl:5<=k) (m:X) (r:Value) (l s:ahZ) (an:C l=Y s) (V:l.length*8<=140737488351232) (c:bD) (J:lm E (λb=>b<c.heap.size) c) (H:m<c.heap.size) (N:c.cell? ⟨m,0,bo⟩=Y r) (K:pt c.heap.size c r l):aiR i k cp 296 #[.func (.func 317) #[] #[.pointer (Y ⟨m,0,bo⟩)]] c λp u=>∃g e D,p=.returned g/\aR D u (.osl (.int .i64)) [g] s e/\(∀b∈e,c.heap.size<=b)/\Below c.heap.size c u:=by
 have a4:1<=k:=aa;have bs:=h 315;have bx:=h 316;refine ajG Tryz.func296 bn (h _) ?_ z;simp only[Tryz.ntmps296,tN,iZ,oI,ajg,ajh,vL,vM,v2,vU,iu,nW]
 gi_wp2_with (first
  |(
   gi_at_call 315;refine(TG i (k-1) (h _) (h _) (h _) z aa m r l V _ H N K).mono ?_;rintro p F ⟨g,rfl,A,T,d⟩
   obtain⟨e,U,S,o⟩:=acc (M:=bb (λ_=>b6) (λ_=>b6)) A;have n:=am l s an F (λb=>b<c.heap.size) (λ_=>b6) [g] [e] (λb a=>by rcases a with a|a;exact i6 a d.size;exact a.elim) ⟨⟨[g],bn,U⟩,trivial⟩ (by simpa using S) (λb d=>⟨Nat.not_lt.2 (o b (by simpa using d)).1,λa=>a,(o b (by simpa using d)).2⟩) True.intro (J.mono (λ_ a=>a) λb a=>d.block b a);rw[I] at n;have n:=O (k-1) _ _ _ _ n;clear A T)
  |(gi_at_call 316;refine n.mono ?_;rintro p a0 ⟨av,w,ce,B,rfl,f⟩))
 have Q:∃j,w=[j]:=by
  have:=f.args
  match w,this with
  |[j],_=>exact⟨j,bn⟩
  |[],a=>exact a.elim
  |_::_::_,a=>exact a.2.elim
 obtain⟨j,rfl⟩:=Q;obtain⟨a3,aq,y⟩:=f.args.1;have R:=y.len;obtain⟨G,rfl⟩:=qB.1 R;have aq:g=G:=aq;subst aq;have ad:B=[]:=by
  have:=f.res
  match B,this with
  |[],_=>rfl
  |_::_,a=>exact a.elim
 subst ad
 go_ret
 refine⟨g,j,_,bn,y,λb L=>?_,?_⟩
 ·have:=(f.Ls b (by simp[L])).2.2.2;rcases this with a|a
  ·exact eD d.size a
  exact(o b (by simpa using a)).1
 exact⟨f.os.trans d.os,f.tape.trans d.tape,f.output.trans d.output,eD d.size f.size,λq x=>(f.heap q (i6 x d.size) (λa=>by have:=(o q (by simpa using a)).1;omega)).trans (d.block q x)⟩
def TM {j:eC->X->Prop} {b:bD} {B:X} {i:Value} {e:ahZ} {h:ahY} (n:aR j b (.osl (.int .i64)) [i] e h) (m:∀c∈h,B<=c) (r:e.length<=1000000):Calls cp 295 #[i] b (λf g=>∃d a,f=.returned (.slice d (aiQ e).length a)/\Below B b g):=by
 rcases VO n with⟨d,a,rfl,rfl⟩|⟨c,p,a,rfl,l,k,rfl⟩
 ·refine(Any.slices_Compact_int_empty Tryz.Nw d a b).mono ?_;rintro f g ⟨rfl,rfl⟩;exact⟨d,a,bn,aj1 _ _⟩
 refine(Any.slices_Compact_int Tryz.Nw c p a e b k aa l).mono ?_;rintro f g ⟨rfl,s,rfl⟩;refine⟨_,a,bn,bn,bn,bn,by simp[putRow,mapBlock,amB],λo q=>?_⟩;have:=m c ac;simp[putRow,mapBlock,amB,Array.getElem?_modify,(aa:c≠o)]
set_option maxRecDepth 100000 in
set_option maxHeartbeats 2000000 in
def adK (g:aiZ) (i:∀k,g.fn k) (p:g.round=bo) (t:∀(S:X) (k:FuncId) (r:ahQ) (a:bD) (q:Ending->bD->Prop),Calls cp k r a q->aiR g S cp k r a q) {E:fB} (F:E.P=cp) {x:ahZ->es} (O:FY E x) (j:X) (av:7<=j) (c:bv Addr) (b e:X) (f m:ahZ) (R:x f=Y m) (N:f.length=b) (bl:f.length<=1000000) (Q:m.length<=1000000) (a:bD) (G:lm E (λd=>d<a.heap.size) a) (H:pt a.heap.size a (.slice c b e) f):aiR g j cp 259 #[.slice c b e] a λh z=>h=.returned (.bool (br ((aiQ m).length<f.length)))/\Below a.heap.size a z:=by
 have ap:1<=j:=aa;have a0:=i 297;have a3:=i 296;have a4:=i 295;generalize M:(aiQ m).length=an;refine ajG Tryz.func259 bn (i _) ?_ p;simp only[Tryz.ntmps259,tN,iZ,oI,ajg,ajh,vL,vM,v2,vU,iu,nW];have C:=amA a 23 (.slice c b e);have n:Below a.heap.size a (a.alloc (.cells #[.slice c b e] 23)):=(aj1 _ a).alloc (bc _) _;have I:pt (a.alloc (.cells #[.slice c b e] 23)).heap.size (a.alloc (.cells #[.slice c b e] 23)) (.slice c b e) f:=by
  rcases H.below n with l|⟨d,T,D,h,o,L⟩
  ·exact .inl l
  exact .inr ⟨d,T,D,h,by simp;omega,L⟩
 have w:=ac6 g i p t F O (j-1) aa a.heap.size (.slice c b e) f m R aa _ (G.mono (λd (l:d<a.heap.size)=>i6 l n.size) λd l=>n.block d l) ac C.cell I
 gi_wp2_with (first
  |(gi_at_call 297;refine(aee g (j-1) (i _) p c b e a).mono ?_;rintro h bx ⟨rfl,rfl⟩)
  |(gi_at_call 296;refine w.mono ?_;rintro h y ⟨bs,k,U,rfl,v,u,o⟩;have s:=t (j-1) _ _ _ _ (TM (B:=a.heap.size) v (λd J=>by have:=u d J;simp at this;omega) Q);rw[M] at s;have A:Below a.heap.size a y:=n.trans (o.mono ac);clear v u o w)
  |(gi_at_call 295;refine s.mono ?_;rintro h V ⟨ad,am,rfl,K⟩))
 go_ret
 exact⟨by rw[N];rfl,A.trans K⟩
def adH (c:ahZ->es):jx:=⟨259,[.v (.a2 .df (.int .i64))],[.bool],λa=>(A4 c a.1).map λb=>(b,())⟩
def adI {E:fB} (q:E.P=cp) {sort:ahZ->es} (K:FY E sort):aD E (adH sort):=by
 refine⟨λg f=>by rw[q];exact Tryz.call259 g f,?_⟩;rintro⟨d,_⟩ b c;have w:(A4 sort d).map (λb=>(b,()))=Y b:=c;obtain⟨B,e,rfl⟩:=fD.1 w;clear c w;unfold A4 at e;cases l:b2 d.length 1000000 with
 |false=>rw[l] at e;cases e
 |true=>
 rw[l] at e;obtain⟨s,M,e⟩:=eO.1 e;cases m:b2 s.length 1000000 with
 |false=>rw[m] at e;cases e
 |true=>
 rw[m] at e;have c:br ((aiQ s).length<d.length)=B:=gC e;subst c;have l:=gT l;have m:=gT m;rintro f t A g k u h an am _hself;have h:mm (x8 t A f) [.v ⟨.a2 .df (.int .i64),d⟩] g k:=h;obtain⟨p,j,rfl,rfl⟩:∃p j,g=[p]/\k=[j]:=by
  cases g with
  |nil=>exact h.elim
  |cons p g=>
   cases k with
   |nil=>exact h.elim
   |cons j k=>
    have a:=h.2;cases g with
    |nil=>cases k with
     |nil=>exact⟨p,j,bn,bn⟩
     |cons=>exact a.elim
    |cons=>exact a.elim
 obtain⟨⟨rfl,S,rfl,J⟩,_⟩:=h;obtain⟨_,o,i,rfl,ad,ap,I⟩:=J;have G:pt f.heap.size f (.slice o d.length i) d:=by
  rcases I with a|⟨b,O,rfl,H,L⟩
  ·exact .inl ⟨o,i,by rw[show d=[] from a];rfl,a⟩
  refine .inr ⟨b,O,i,bn,u b H,λy x=>?_⟩;obtain⟨U,T,C,_,D⟩:=L y d[y] (by simp[x]);subst D;have z:=C 0 _ rfl;simp only[aiq,ajy,nc] at z;rw[z];simp[x]
 intro F;have a:=adK Fence.wide (λ_=>trivial) rfl (λN j R f Q a=>(callsIn_wide (n:=N)).2 a) q K 10 aa o d.length i d s M bn l m f (F.mono (λb a=>u b (.inl a)) λ_ _=>rfl) G;have a:=callsIn_wide.1 a;show Calls E.P 259 #[.slice o d.length i] f _;rw[q];refine a.mono ?_;rintro V av ⟨rfl,c⟩;refine⟨t,[[]],[[]],[.bool _],bn,⟨⟨bn,trivial⟩,⟨⟨[.bool _],bn,bn,bn⟩,trivial⟩,ac,ac,λ_ a=>a,λ_ a=>.inl a,c.size,c.os,c.tape,c.output,λb r=>.of_heap (c.block b r),λb r _=>c.block b r⟩⟩
end KO
end Go.Proofs
end
end
