/-
  Parts of the proof: Fw25, Fw36, Fw46, Fw47, Pl1, Fs, Dn20, Dn21, TwS, Dn20b, Dn22, Dn24a, Dn24, Dn25, Dn25b, Tw25, Ok25, Pa1, Pl2, Pl3: the framework (Fw), pure forms (Dn), plain laws (Pl, Th), calls of functions (Ok).
-/
import Derived.ProofKit
import Derived.Handed
import Derived.KernelRfl
import Derived.Lib.SlicesCompact
import Derived.RangeFuncBox
import Derived.RangeFuncLeaves
import Derived.Shelf.Abstract
import Derived.WalkKit
import Derived.OwnWalkIn
import Derived.TacticsInMore
import Derived.LoopNIn
import Derived.LoopIn
import Derived.Maps.AppendAt
import Derived.Shelf.Slices.CompactI
import Derived.Lib.OwnBridge
import Derived.Test.YtnndjinceoekdaaGreatDoorProg
import Derived.Test.YtnndjinceoekdaaGreatDoorB8aca18f3

set_option linter.all false
set_option maxHeartbeats 1000000
open _root_ renaming Nat->X,Int->Z,List->bm,rfl->bn,Option->bv,cond_true->bG,congrArg->b6,Array->bT,Bool->bA,if_true->cj,False->b4,Unit->bt,cond->bw,and_true->ca
open Go renaming World->bC,ResultVar->aj9,TypeId->bF,Exit->b5,Code->cq,Oper->bR,Program->bY,Field->akr,MemPlace->alJ,Fence->ala,CallsIn->akZ,callsIn_of_wp->alO,undef->bV
open Option renaming none->bo,some->Y,bind_eq_some_iff->alp,bind->bB
open Nat renaming beq->bH,blt->b9,ble->b2,reduceAdd->alr,reduceSub->als,mul_one->alG,min_eq_left->alu
open List renaming length->cz,range->bJ,getElem?_eq_none->alM,getElem?_eq_getElem->bX,replicate->bI,ext_getElem->amo,length_cons->an5,length_take->akv,take_add_one->akd,take_append_drop->amj
open Option.some renaming inj->akS,injEq->alo
open Bool renaming true->bq,false->bp
open ByteArray renaming empty->amM
open Go.Program renaming cellsOf->aoP
open Go.Addr renaming add->am3
open Go.World renaming cell?->alk,frozen?->amP
open Go.DataW renaming trod->an1,TrodAll->alL
open Go.jy.ah renaming size->aku
open Go.Value renaming okWide->alK,bool->aoS,int->akg,oneCell'->akp
open Go.WideShapes renaming okWide_int->apS,okWide_bool->apT,okWide_string->apU,okWide_slice->apV
open Go.ChangeShapes renaming trodAll_cons->an2,trodAll_mk1->apX,trodAll_append->apY
open Go.jy.c8 renaming refl->cp
open Go.WideElems renaming Trod_stays->apW
open Array renaming toArray_toList->aoQ
open Go.MemPlace renaming cell->aoR
open Decidable renaming decide->br
open Go.IntKind renaming i64->bL,wrap->alN,u64->bD,u32->cb,u8->an3
open Go.Lib renaming compact->akY
open Go.Proofs.Tryz renaming prog->cm,underlying23->aoT,func317->an4,ntmps317->aoU,func266->am4
open Go.RowKit.Below renaming refl->amp
open Go.Boxed renaming new->aoV
open Go.Sort renaming ahead->aoW
open Int renaming le_refl->alb
noncomputable section
namespace Go.jy
variable{a:X}{b:aj6}{c:Type}{d:Z}{e:Value}{f:bm hB}{g:bm ah}{h:bC}{i:bm aj9}{j:eE->X->Prop}{k:Func}{l:X->Prop}
section
def nL:X->(f:bm hB)->hD f->bm (X×ak)
 |_,[],_=>[]
 |k,.v g::b,a=>(k,.val g a.1)::nL (k+1) b a.2
 |k,.m _::b,a=>(k,.ref k [])::nL (k+1) b a.2
 |k,.o _::b,a=>(k,.ref k [])::nL (k+1) b a.2
 |k,.c e h::b,a=>(k,.eA e ((jn h a.1).map λd=>.val d.1 d.2))::nL (k+1) b a.2
 |k,.n::b,a=>(k,.dh (.slice bo 0 0))::nL (k+1) b a.2
 |k,.w _::b,a=>(k,.view k [] a.1.2.1 a.1.2.2)::nL (k+1) b a.2
 |k,.s _ _::b,a=>nL (k+1) b a.2
def nM:X->(e:bm hB)->hD e->bm (X×aG)
 |_,[],_=>[]
 |k,.v _::b,a=>nM (k+1) b a.2
 |k,.m d::b,a=>(k,⟨d,a.1⟩)::nM (k+1) b a.2
 |k,.o d::b,a=>(k,⟨d,a.1⟩)::nM (k+1) b a.2
 |k,.c _ _::b,a=>nM (k+1) b a.2
 |k,.n::b,a=>nM (k+1) b a.2
 |k,.w f::b,a=>(k,⟨.osl f,a.1.1⟩)::nM (k+1) b a.2
 |k,.s _ _::b,a=>nM (k+1) b a.2
def kb:X->bm hB->aj5
 |_,[]=>[]
 |k,.m _::a=>k::kb (k+1) a
 |k,.v _::a=>kb (k+1) a
 |k,.o _::a=>kb (k+1) a
 |k,.c _ _::a=>kb (k+1) a
 |k,.n::a=>kb (k+1) a
 |k,.w _::a=>k::kb (k+1) a
 |k,.s _ _::a=>kb (k+1) a
def Hn {r:Type}:∀{k:X} {ps:bm hB} {a:hD ps} {b:jd ps r},jW k (gK ps a b)=nL k ps a/\kp k (gK ps a b)=nM k ps a/\hV k (gK ps a b)=kb k ps/\(gK ps a b).length=ps.length
 |k,[],a,b=>⟨bn,bn,bn,bn⟩
 |k,i::h,a,b=>by
  have g:=λa b=>Hn (r:=r) (k:=k+1) (ps:=h) (a:=a) (b:=b);cases i
  case m=>
   obtain⟨c,d,e,f⟩:=g a.2 b.2;simp only[gK,jW,kp,hV,nL,nM,kb,iv,c,d,e,f,and_self]
  case w=>
   obtain⟨c,d,e,f⟩:=g a.2 b.2;simp only[gK,jW,kp,hV,nL,nM,kb,iv,c,d,e,f,and_self]
  all_goals obtain⟨c,d,e,f⟩:=g a.2 b;simp only[gK,jW,kp,hV,nL,nM,kb,iv,c,d,e,f,and_self]
def F7 (tt:bm (bF×ah)) (e:aQ) (b:ah):aj9->bv (b.den×aj5)
 |.tmp k=>match gt e.g k with
  |.val _ l=>(h7 b l).bind λa=>Y (a,[])
  |.dh f=>bif qq b f then(i9 b f.cells.toList).bind λa=>Y (a,[]) else bo
  |.ref id d=>match aq e.h id with
   |some c=>(h8 c.1 c.2 d b).bind λa=>Y (a,[id])
   |none=>bo
  |_=>bo
 |.cell j i=>match aq tt i with
  |some m=>bif bb m b then match gt e.g j with
   |.ref id d=>match aq e.h id with
    |some c=>match fw c.1 d with
     |some (.optr _)=>(h8 c.1 c.2 (d++[.deref]) b).bind λa=>Y (a,[id])
     |_=>bo
    |none=>bo
   |_=>bo else bo
  |none=>bo
def F6 (tt:bm (bF×ah)) (c:aQ):bm aj9->(a:bm ah)->bv (lO a×aj5)
 |[],[]=>Y ((),[])
 |r::f,e::a=>bif e.ga then(F7 tt c e r).bind λd=>(F6 tt c f a).map λb=>((d.1,b.1),d.2++b.2) else bo
 |_,_=>bo
theorem aex {E:fF} {f:aQ} {c:ah} {b:aj9} {d:c.den×aj5} (a:F7 E.tt f c b=Y d):sL E.P f ⟨c,d.1⟩ b d.2:=by
 cases b with
 |tmp b=>
  simp only[F7] at a;simp only[sL];split at a
  ·grind [kq,alp]
  ·grind [alp,qq.ok]
  ·grind [jc,alp]
  grind
 |cell j h=>
  simp only[F7] at a;simp only[sL];split at a
  case h_2=>cases a
  rename_i g i;cases e:bb g c with
  |false=>grind
  |true=>
  rw[e] at a;refine⟨(E.ok h g i).lay e,?_⟩;simp only[bG] at a;grind [jc,alp]
theorem RU {E:fF} {f:aQ}:∀{d:bm aj9} {c:bm ah} {b:lO c×aj5},F6 E.tt f d c=Y b->uI E.P f d (jn c b.1) b.2
 |[],[],b,a=>by cases a;rfl
 |[],_::_,b,a=>by cases a
 |_::_,[],b,a=>by cases a
 |r::d,k::c,b,a=>by
  simp only[F6] at a;cases e:k.ga with
  |false=>grind
  |true=>
  rw[e] at a;simp only[bG] at a;obtain⟨j,h,a⟩:=eV.1 a;obtain⟨i,g,rfl⟩:=fG.1 a;exact⟨e,j.2,i.2,bn,aex h,RU g⟩
def pC (
 st:aQ) {t:Type} (d:bv t):X->(r:bm hB)->hD r->bv (jd r t)
 |_,[],_=>d
 |k,.v _::b,a=>pC st d (k+1) b a.2
 |k,.o _::b,a=>pC st d (k+1) b a.2
 |k,.c _ _::b,a=>pC st d (k+1) b a.2
 |k,.n::b,a=>pC st d (k+1) b a.2
 |k,.s _ _::b,a=>pC st d (k+1) b a.2
 |k,.m l::b,a=>bif sT (.ref k []) (gt st.g k)&&(l.ga&&sg l) then match aq st.h k with
  |some j=>match h7 l j.2 with
   |some e=>(pC st d (k+1) b a.2).map λi=>(e,i)
   |none=>bo
  |none=>bo else bo
 |k,.w f::b,a=>match gt st.g k with
  |.view u [] q p=>bif bH k u&&f.ga then match aq st.h k with
   |some j=>match h7 (.osl f) j.2 with
    |some e=>bif bH q a.1.2.1&&(bH p a.1.2.2&&(bH (cz (α:=f.den) e) (cz (α:=f.den) a.1.1)&&b9 q p)) then(pC st d (k+1) b a.2).map λi=>(e,i) else bo
    |none=>bo
   |none=>bo else bo
  |_=>bo
theorem tM {y:aQ} {C:Type} {B:bv C}:∀{k:X} {ps:bm hB} {a:hD ps} {d:jd ps C},pC y B k ps a=Y d->p9 y k (gK ps a d)/\B=Y (iE ps d)
 |k,[],a,d,b=>⟨trivial,b⟩
 |k,.v _::e,a,d,b=>tM (ps:=e) b
 |k,.o _::e,a,d,b=>tM (ps:=e) b
 |k,.c _ _::e,a,d,b=>tM (ps:=e) b
 |k,.n::e,a,d,b=>tM (ps:=e) b
 |k,.s _ _::e,a,d,b=>tM (ps:=e) b
 |k,.m E::e,a,d,b=>by
  simp only[pC] at b;cases f:(sT (.ref k []) (gt y.g k)&&(E.ga&&sg E)) with
  |false=>grind
  |true=>
  rw[f] at b;simp only[bk] at f;simp only[bG] at b;split at b
  case h_2=>cases b
  rename_i J t;split at b
  case h_2=>cases b
  rename_i D u;obtain⟨I,r,rfl⟩:=fG.1 b;obtain⟨j,l⟩:=tM (a:=a.2) r;refine⟨⟨⟨(sT.ok f.1).symm,?_,f.2.1,f.2.2⟩,j⟩,l⟩;rw[t];exact b6 Y (kq u)
 |k,.w z::e,a,d,b=>by
  simp only[pC] at b;split at b
  case h_2=>cases b
  rename_i H x q G;cases f:(bH k H&&z.ga) with
  |false=>grind
  |true=>
  rw[f] at b;simp only[bk] at f;obtain rfl:=fA f.1;simp only[bG] at b;split at b
  case h_2=>cases b
  rename_i J t;split at b
  case h_2=>cases b
  rename_i D u;cases p:(bH x a.1.2.1&&(bH q a.1.2.2&&(bH (cz (α:=z.den) D) (cz (α:=z.den) a.1.1)&&b9 x q))) with
  |false=>grind
  |true=>
  rw[p] at b;simp only[bk] at p;obtain⟨h,i,F,A⟩:=p;have h:=fA h;have i:=fA i;have A:x<q:=gX A;obtain⟨I,r,rfl⟩:=fG.1 b;obtain⟨j,l⟩:=tM (a:=a.2) r;refine⟨⟨⟨by rw[G,h,i],?_,⟨f.2,aa⟩,fA F⟩,j⟩,l⟩;rw[t];exact b6 Y (kq u)
def ES (tt:bm (bF×ah)) (a:bm hB) (f:bm aj9) (d:bm ah) (e:hD a) (c:aQ):bv (jd a (lO d)):=
 match F6 tt c f d with
 |some b=>bif jJ (kb 0 a++b.2) then pC c (Y b.1) 0 a e else bo
 |none=>bo
theorem Ol {E:fF} {j:aQ} {c:hD f} {d:jd f (lO g)} {e:b5} (m:e=.normal\/e=.ret) (b:ES E.tt f i g c j=Y d):LP E.P (gK f c d) i (jn g (iE f d)) e j:=by
 unfold ES at b;split at b
 case h_2=>cases b
 rename_i h o;cases l:jJ (kb 0 f++h.2) with
 |false=>grind
 |true=>
 rw[l] at b;simp only[bG] at b;obtain⟨k,n⟩:=tM (a:=c) b;refine⟨m,h.2,?_,?_,k⟩
 ·grind [RU,akS]
 simp_all [Hn]
def Om (tt:bm (bF×ah)) (a:bm hB) (e:bm aj9) (c:bm ah) (d:hD a):b5->aQ->bv (jd a (lO c))
 |.normal,b=>ES tt a e c d b
 |.ret,b=>ES tt a e c d b
 |_,_=>bo
def AZ (c:gV) (e:mx) (f:cq) (a:bm hB) (g:bm aj9) (d:bm ah) (b:hD a):bv (jd a (lO d)):=
 hR c e f ⟨nL 0 a b,nM 0 a b⟩ _ (Om c.tt a g d b)
section
variable {E:fF}
theorem aC.Qm {h:X} {d:Func} {j:hD f->bv (jd f (lO g))} (n:bm (X×jO)) (r:bm (X×ah)) (o:aj7) (w:mx) (az:ew) (F:∀v∈az,y8 E.P v) (D:E.P.funcs[h]?=Y d) (O:d.body.isSome=bq) (I:d.results=i.toArray) (R:b2 f.length d.ntmps=bq) (C:∀(s:ev) (t:bC),(callFunc h s).run E.P t=.ok (.enter h s) t) (J:∀K∈n,aC E K.2) (A:∀e,AZ ⟨E.tt,n,r,d.ntmps,kb 0 f++n5 (jM 0 f),[],o,jM 0 f,az,[],E.glob,E.eqs⟩ w (d.body.getD .skip) f i g e=j e):aC E ⟨h,f,g,j⟩:=by
 refine⟨C,λe u p=>?_⟩;rw[show(jO.mk h f g j).yL e=j e from rfl,<-A e] at p;obtain⟨ao,y,z,N⟩:=Hn (k:=0) (ps:=f) (a:=e) (b:=u);refine sk.aaf D (c:=d.body.getD .skip) (by cases Q:d.body with|none=>grind|some L=>rfl) I (by simp_all) ?_;intro M B l H q G;rw[ao,y];rw[BL] at l q;rw[z] at l;refine mh (ic:=⟨E.tt,n,r,d.ntmps,kb 0 f++n5 (jM 0 f),[],o,jM 0 f,az,[],E.glob,E.eqs⟩) ⟨bn,B.symm,l.symm,⟨J,q,F,G,bn,bn⟩,pX.nil H⟩ p ?_;intro x S m;cases x with
 |normal=>exact Ol (.inl bn) m
 |ret=>exact Ol (.inr bn) m
 |_=>cases m
def aC.of {fn:Func} {rs:bm aj9} {j:hD f->bv (jd f (lO g))} (c:bm (X×jO)) (i:bm (X×ah)) (h:aj7) (e:mx) (o:E.P.funcs[a]?=Y fn) (m:fn.body.isSome=bq) (q:fn.results=rs.toArray) (p:b2 f.length fn.ntmps=bq) (n:∀(k:ev) (l:bC),(callFunc a k).run E.P l=.ok (.enter a k) l) (r:∀s∈c,aC E s.2) (b:∀d,AZ ⟨E.tt,c,i,fn.ntmps,kb 0 f++n5 (jM 0 f),[],h,jM 0 f,[],[],E.glob,E.eqs⟩ e (fn.body.getD .skip) f rs g d=j d):aC E ⟨a,f,g,j⟩:=
 aC.Qm c i h e [] (λ_ b=>by cases b) o m q p n r b
def Gh:cq->cq
 |.seq a _=>a
 |c=>c
def SB:cq->cq
 |.seq _ a=>a
 |c=>c
def wh (a:X):cq->bv (bT bR)
 |.region d e _=>if d=a then Y e else bo
 |.seq b c=>(wh a b).orElse λ_=>wh a c
 |.cond _ b c=>(wh a b).orElse λ_=>wh a c
 |.block _ b=>wh a b
 |.loop b=>wh a b
 |_=>bo
def I5 {b:gV} {k:Type} {c:bT bR} {f:aj5} {d:aQ->bv k}:∀(j:aj5) (g:aQ),la b c (j++f) g d=la b c j g λa=>la b c f a d
 |[],g=>rfl
 |i::e,g=>by
  have h:(λa=>la b c (e++f) a d)=λa=>la b c e a λa=>la b c f a d:=funext λa=>I5 e a;simp only[kF,la];split
  ·rfl
  split
  ·rw[h]
  simp only[h,I5 e]
def X0 {b:bY} {tt:bm (bF×ah)} (i:∀c f,aq tt c=Y f->fo b f c) {a:uK} {S:bF} (g:b.underlying a.T=Y (.array a.xs.length S)) (h:aq tt S=Y (.int a.k)):∀e∈[a],L8 b e:=λe d=>by rw[gp] at d;subst d;exact⟨S,g,i _ _ h⟩
def Tf:∀b∈([]:bm (X×jO)),aC E b.2:=λ_ a=>by cases a
theorem afR {c:jO} {d:bm (X×jO)} (f:aC E c) (g:∀b∈d,aC E b.2):∀b∈(a,c)::d,aC E b.2:=λb e=>by grind
end
def wF:Value->Value->bA
 |.int c a,.int d b=>if c=d/\a=b then bq else bp
 |.bool a,.bool b=>a==b
 |.string a,.string b=>a.data.toList.isEmpty&&b.data.toList.isEmpty
 |.slice bo 0 0,.slice bo 0 0=>bq
 |.map bo,.map bo=>bq
 |.pointer bo,.pointer bo=>bq
 |.nilFunc,.nilFunc=>bq
 |_,_=>bp
def Vs {a:ByteArray} (c:a.data.toList.isEmpty=bq):a=amM:=by
 cases a with|mk b=>cases b with|mk d=>cases d with
  |nil=>rfl
  |cons=>cases c
theorem wF.ok {b:Value} (a:wF e b=bq):e=b:=by
 unfold wF at a;split at a
 ·grind
 ·rw[beq_iff_eq.1 a]
 ·simp_all [Vs,bk]
 ·rfl
 ·rfl
 ·rfl
 ·rfl
 cases a
def wG:ey->ey->bA
 |[],[]=>bq
 |a::c,b::d=>wF a b&&wG c d
 |_,_=>bp
theorem wG.ok:∀{c d:ey},wG c d=bq->c=d
 |[],[],_=>rfl
 |[],_::_,b=>by cases b
 |_::_,[],b=>by cases b
 |a::c,e::d,b=>by simp only[wG,bk] at b;rw[wF.ok b.1,wG.ok b.2]
def jH (b:bY) (c:bF) (d:X) (f:Value):bA:=match b.info? c with
 |some a=>bH a.size 1&&b2 a.bytes d&&(match a.zero with|some e=>wF e f|none=>bp)
 |none=>bp
theorem jH.ok {d:bY} {e:bF} {f:X} {g:Value} (b:jH d e f g=bq):∃a,d.info? e=Y a/\a.size=1/\a.bytes<=f/\a.zero=Y g:=by
 unfold jH at b;split at b
 case h_2=>cases b
 rename_i a j;simp only[bk] at b;obtain⟨⟨h,i⟩,c⟩:=b;split at c
 case h_2=>cases c
 rename_i l k;exact⟨a,j,fA h,gX i,by rw[k,wF.ok c]⟩
mutual
def h2 (b:bY):ah->bF->bA
 |.int g,a=>jH b a 24 (.int g 0)&&(match b.underlying a with|some (.int j)=>if j=g then bq else bp|_=>bp)
 |.bool,a=>jH b a 24 (.bool bp)&&(match b.underlying a with|some .bool=>bq|_=>bp)
 |.str,a=>jH b a 24 (.string amM)&&(match b.underlying a with|some .string=>bq|_=>bp)
 |.a8 _ c,a=>jH b a 24 (.slice bo 0 0)&&(match b.underlying a with|some (.slice d)=>h2 b c d|_=>bp)
 |.osl c,a=>jH b a 24 (.slice bo 0 0)&&(match b.underlying a with|some (.slice d)=>h2 b c d|_=>bp)
 |.ptr _ c,a=>jH b a 24 (.pointer bo)&&(match b.underlying a with|some (.pointer d)=>h2 b c d|_=>bp)
 |.optr c,a=>jH b a 24 (.pointer bo)&&(match b.underlying a with|some (.pointer d)=>h2 b c d|_=>bp)
 |.mp c,a=>jH b a 24 (.map bo)&&(match b.underlying a with|some (.map e d)=>(match b.underlying e with|some (.int .i64)=>h2 b c d|_=>bp)|_=>bp)
 |.fB _ c,a=>jH b a 24 (.map bo)&&(match b.underlying a with|some (.map e d)=>(match b.underlying e with|some (.int .i64)=>h2 b c d|_=>bp)|_=>bp)
 |.fn _ _,a=>jH b a 24 .nilFunc&&(match b.underlying a with|some (.func _ _ _)=>bq|_=>bp)
 |.st c,a=>b9 0 c.size&&match b.info? a with
  |some f=>bH f.size c.size&&b2 f.bytes (24*c.size)&&(match f.zero with
   |some (.agg h)=>bH h.size c.size&&(match b.underlying a with|some (.struct i)=>tr b c i.toList 0 h.toList|_=>bp)
   |_=>bp)
  |none=>bp
 |_,_=>bp
def tr (c:bY):ah->bm akr->X->ey->bA
 |.pr a f,d::h,e,b=>bH d.offset e&&h2 c a d.type&&b9 0 a.size&&(match c.info? d.type with|some g=>(match g.zero with|some i=>wG (b.take a.size) i.cells.toList|none=>bp)|none=>bp)&&tr c f h (e+a.size) (b.drop a.size)
 |.nil,[],_,b=>b.isEmpty
 |_,_,_,_=>bp
end
mutual
theorem h2.ok {n:bY}:∀{o:ah} {i:bF},h2 n o i=bq->fo n o i
 |.int z,i,a=>by
  simp only[h2,bk] at a;obtain⟨c,b⟩:=a;obtain⟨e,ay,f,g,h⟩:=jH.ok c;split at b
  ·rename_i A d;split at b
   ·rename_i p;subst p;exact⟨e,ay,f,g,h,d⟩
   grind
  grind
 |.bool,i,a=>by
  simp only[h2,bk] at a;obtain⟨c,b⟩:=a;obtain⟨e,ay,f,g,h⟩:=jH.ok c;split at b
  ·rename_i d;exact⟨e,ay,f,g,h,d⟩
  grind
 |.str,i,a=>by
  simp only[h2,bk] at a;obtain⟨c,b⟩:=a;obtain⟨e,ay,f,g,h⟩:=jH.ok c;split at b
  ·rename_i d;exact⟨e,ay,f,g,h,d⟩
  grind
 |.a8 _ k,i,a=>by
  simp only[h2,bk] at a;obtain⟨c,b⟩:=a;obtain⟨e,ay,f,g,h⟩:=jH.ok c;split at b
  ·rename_i j d;exact⟨e,j,ay,f,g,h,d,h2.ok b⟩
  grind
 |.osl k,i,a=>by
  simp only[h2,bk] at a;obtain⟨c,b⟩:=a;obtain⟨e,ay,f,g,h⟩:=jH.ok c;split at b
  ·rename_i j d;exact⟨e,j,ay,f,g,h,d,h2.ok b⟩
  grind
 |.ptr _ k,i,a=>by
  simp only[h2,bk] at a;obtain⟨c,b⟩:=a;obtain⟨e,ay,f,g,h⟩:=jH.ok c;split at b
  ·rename_i j d;exact⟨e,j,ay,f,g,h,d,h2.ok b⟩
  grind
 |.optr k,i,a=>by
  simp only[h2,bk] at a;obtain⟨c,b⟩:=a;obtain⟨e,ay,f,g,h⟩:=jH.ok c;split at b
  ·rename_i j d;exact⟨e,j,ay,f,g,h,d,h2.ok b⟩
  grind
 |.mp k,i,a=>by
  simp only[h2,bk] at a;obtain⟨c,b⟩:=a;obtain⟨e,ay,f,g,h⟩:=jH.ok c;split at b
  ·rename_i l j d;split at b
   ·rename_i m;exact⟨e,l,j,ay,f,g,h,d,m,h2.ok b⟩
   grind
  grind
 |.fB _ k,i,a=>by
  simp only[h2,bk] at a;obtain⟨c,b⟩:=a;obtain⟨e,ay,f,g,h⟩:=jH.ok c;split at b
  ·rename_i l j d;split at b
   ·rename_i m;exact⟨e,l,j,ay,f,g,h,d,m,h2.ok b⟩
   grind
  grind
 |.fn _ _,i,a=>by
  simp only[h2,bk] at a;obtain⟨c,b⟩:=a;obtain⟨e,ay,f,g,h⟩:=jH.ok c;split at b
  ·rename_i v w x d;exact⟨e,v,w,x,ay,f,g,h,d⟩
  grind
 |.st k,i,a=>by
  simp only[h2,bk] at a;obtain⟨r,a⟩:=a;split at a
  case h_2=>cases a
  rename_i e t;simp only[bk] at a;obtain⟨⟨c,b⟩,a⟩:=a;split at a
  case h_2=>cases a
  rename_i y u;simp only[bk] at a;obtain⟨s,a⟩:=a;split at a
  case h_2=>cases a
  rename_i q d;exact⟨gX r,e,q,y,t,fA c,gX b,u,d,tr.ok a,fA s⟩
 |.pr _ _,_,a=>by cases a
 |.nil,_,a=>by cases a
 |.eF,_,a=>by cases a
theorem tr.ok {f:bY}:∀{g:ah} {b:bm akr} {d:X} {c:ey},tr f g b d c=bq->iV f g b d c
 |.pr h i,[],d,c,a=>by cases a
 |.pr h i,r::s,d,c,a=>by
  simp only[tr,bk] at a;obtain⟨⟨⟨⟨j,k⟩,l⟩,e⟩,m⟩:=a;split at e
  case h_2=>cases e
  rename_i p n;split at e
  case h_2=>cases e
  rename_i q o;exact⟨fA j,h2.ok k,gX l,⟨p,q,n,o,wG.ok e⟩,tr.ok m⟩
 |.nil,[],d,c,a=>by have a:c=[]:=(by grind [tr]);exact a
 |.nil,_::_,d,c,a=>by cases a
 |.int _,b,d,c,a=>by cases b<;>cases a
 |.bool,b,d,c,a=>by cases b<;>cases a
 |.str,b,d,c,a=>by cases b<;>cases a
 |.a8 _ _,b,d,c,a=>by cases b<;>cases a
 |.ptr _ _,b,d,c,a=>by cases b<;>cases a
 |.osl _,b,d,c,a=>by cases b<;>cases a
 |.optr _,b,d,c,a=>by cases b<;>cases a
 |.st _,b,d,c,a=>by cases b<;>cases a
 |.eF,b,d,c,a=>by cases b<;>cases a
end
theorem Tp {e:bY}:∀{tt:bm (bF×ah)},(tt.all λf=>h2 e f.2 f.1)=bq->∀a b,aq tt a=Y b->fo e b a
 |[],_,_,_,c=>by cases c
 |(k,g)::r,c,a,b,d=>by
  simp only[sx,bk] at c;rw[di] at d;split at d
  ·grind [h2.ok]
  exact Tp (by grind) a b d
def Ix (a:bY):ew->bA
 |[]=>bq
 |T::d=>!a.stoodInHeld T&&(!a.eqGuardType a.depth T&&((match a.underlying T with|some (.struct c)=>c.toList.all λb=>b.name !="_"|_=>bp)&&Ix a d))
def Oa {e:bY}:∀{d:ew},Ix e d=bq->∀b∈d,LN e b
 |[],_,b,a=>by cases a
 |U::d,f,b,a=>by
  simp only[Ix,bk,uo] at f;obtain⟨h,i,c,j⟩:=f;rcases fC.1 a with rfl|a
  ·split at c
   ·rename_i g k;exact⟨h,i,g,k,c⟩
   cases c
  exact Oa j b a
end
section
def qd:(i:ah)->i.den->Prop
 |.int g,h=>(Lit.int g h).wf=bq
 |.a8 _ b,c=>c.length<=maxLen/\∀a∈c,qd b a
 |.ptr _ b,a=>∀d,a=Y d->qd b d
 |.st b,a=>qd b a
 |.pr e f,a=>qd e a.1/\qd f a.2
 |_,_=>True
def sS:ah->bA
 |.int _|.bool|.str|.nil=>bq
 |.a8 _ a|.ptr _ a|.st a=>sS a
 |.pr b c=>sS b&&sS c
 |_=>bp
def HJ {P:bY} {c:ah} {a:bF} (d:fo P c a):P.cellsOf a=c.size:=by obtain⟨f,e,b,_⟩:=d.info;unfold aoP;rw[b.info];simp[b.size]
section
variable {A:Type} {enc:bF×Value->A} {P:bY} {w:bC}
theorem HK {h:X} {b:Addr} {c:ey} (d:w.cells? h b a=Y c) (f:0<a):b.spot=bo/\c.length=a/\b.block<w.heap.size/\fy w b.block b.off c:=by
 have l:=World.cells?_block d f;obtain⟨_,k,e⟩:=World.cells?_some d;have m:b.spot=bo:=by
  have o:=e 0 f;have:(w.cell? (b.add 0)).isSome=bq:=(by grind);simp only[am3,cj] at this;unfold alk at this;split at this
  ·cases p:b.spot with
   |none=>rfl
   |some t=>grind
  grind
 refine⟨m,k,l,λg s i=>?_⟩;have j:g<a:=(by grind);have:=e g j;rw[i] at this;rw[<-this];congr 1;unfold am3;obtain⟨n,q,r⟩:=b;grind
def Cm (w:bC):eE->X->Prop:=λ_ a=>a<w.heap.size
mutual
theorem Gw:∀{τ:ah} {j:bF} {i:ey} {l:X} {o:DataW A×bm alJ},sS τ=bq->fo P τ j->an1 enc P w 0 (λ_=>bq) bq l j i=Y o->∃a:τ.den,aU (Cm w) w τ i a []/\qd τ a
 |.int n,j,i,l,o,_,⟨b,_,_,_,_,h⟩,d=>by obtain⟨x,rfl,_,ad⟩:=DataW.trod_int h d;exact⟨x,⟨bn,bn⟩,ad⟩
 |.bool,j,i,l,o,_,⟨b,_,_,_,_,h⟩,d=>by obtain⟨y,rfl,_⟩:=DataW.trod_bool h d;exact⟨y,⟨bn,bn⟩,trivial⟩
 |.str,j,i,l,o,_,⟨b,_,_,_,_,h⟩,d=>by obtain⟨av,rfl,_,_⟩:=DataW.trod_string h d;exact⟨av,⟨bn,bn⟩,trivial⟩
 |.a8 an c,j,i,l,o,g,⟨b,O,_,_,_,_,h,m⟩,d=>by
  rcases DataW.trod_slice h d with⟨rfl,_⟩|⟨e,u,Q,F,dl,x,rfl,rfl,_,_,cv,bx,ce,K,_⟩
  ·exact⟨[],⟨bn,bo,0,bn,bd _,λ_=>rfl,.inl bn⟩,by grind,ac⟩
  have H:=HJ m;have L:=m.pos;have E:∀b,b<u->∃a:c.den,∃f:ey,f.length=c.size/\w.cells? 0 (e.add (b*c.size)) c.size=Y f/\aU (Cm w) w c f a []/\qd c a:=by
   intro b v;have s:=K b v;have t:F[b]?=Y (F[b]'(by omega)):=bi _
   rw[t] at s;obtain⟨f,q,z⟩:=eV.1 s;rw[H] at q;obtain⟨a,k,r⟩:=Gw (τ:=c) g m z;exact⟨a,f,k.len,q,k,r⟩
  have U:∀n,n<=u->∃p:bm c.den,p.length=n/\∀(b:X) (a:c.den),p[b]?=Y a->∃f:ey,f.length=c.size/\w.cells? 0 (e.add (b*c.size)) c.size=Y f/\aU (Cm w) w c f a []/\qd c a:=by
   intro n
   induction n with
   |zero=>simp_all
   |succ n am=>
    intro ci;obtain⟨p,s,t⟩:=am aa;obtain⟨a,f,q⟩:=E n aa;refine⟨p++[a],by grind,λb M D=>?_⟩;grind
  obtain⟨p,s,t⟩:=U u (bd _);refine⟨p,⟨bn,Y e,Q,by rw[s],aa,(λd=>by cases d),?_⟩,aa,λa k=>?_⟩
  ·cases u with
   |zero=>grind
   |succ u=>
    right;obtain⟨ds,bl,_,I,_⟩:=E 0 aa;have T:e.add (0*c.size)=e:=(by simp[am3]);rw[T] at I;obtain⟨V,_,C,_⟩:=HK I L;refine⟨e.block,e.off,by obtain⟨y,ap,a0⟩:=e;grind,C,λb a k=>?_⟩;obtain⟨f,a3,S,a4,_⟩:=t b a k;obtain⟨_,_,_,G⟩:=HK S L;grind [ao,am3]
  obtain⟨b,v,rfl⟩:=g1.1 k;obtain⟨_,_,_,_,r⟩:=t b _ (bi v);exact r
 |.ptr an c,j,i,l,o,g,⟨b,O,_,_,_,_,h,m⟩,d=>by
  rcases DataW.trod_pointer h d with⟨rfl,_⟩|⟨e,R,a,x,rfl,rfl,_,q,z⟩
  ·exact⟨bo,⟨bn,bn⟩,λa d=>by cases d⟩
  rw[HJ m] at q;obtain⟨M,D,r⟩:=Gw (τ:=c) g m z;obtain⟨V,_,C,G⟩:=HK q m.pos;refine⟨Y M,⟨bn,e.block,e.off,R,by obtain⟨y,ap,a0⟩:=e;grind,C,D.len,G,D⟩,λa d=>by grind⟩
 |.st c,j,i,l,o,g,⟨_,b,N,d0,v,c1,_,_,h,J,_⟩,d=>by
  obtain⟨p,x,rfl,_,co,c2,K⟩:=DataW.trod_struct h d;have H:P.cellsOf j=c.size:=(by grind [aoP]);obtain⟨a,k,r⟩:=Tn (τ:=c) (fs:=N.toList) (cs:=i) g J aa (λdg bs J=>by
   grind)
  rw[m5] at k;exact⟨a,k,r⟩
 |.osl _,_,_,_,_,g,_,_=>by cases g
 |.optr _,_,_,_,_,g,_,_=>by cases g
 |.pr _ _,_,_,_,_,_,B,_=>B.elim
 |.nil,_,_,_,_,_,B,_=>B.elim
 |.eF,_,_,_,_,g,_,_=>by cases g
theorem Tn:∀{τ:ah} {fs:bm akr} {c:X} {f cs:ey},sS τ=bq->iV P τ fs c f->cs.length=c+τ.size->(∀(e:X) b,fs[e]?=Y b->∃(j:X) (k:DataW A×bm alJ),an1 enc P w 0 (λ_=>bq) bq j b.type ((cs.drop b.offset).take (P.cellsOf b.type))=Y k)->∃l:τ.den,aU (Cm w) w τ (cs.drop c) l []/\qd τ l
 |.pr y z,b::D,c,f,cs,d,p,r,i=>by simp only[sS,bk] at d;obtain⟨n,g,B,_,o⟩:=p;obtain⟨j,k,h⟩:=i 0 b bn;rw[n,HJ g] at h;obtain⟨v,s,t⟩:=Gw d.1 g h;obtain⟨x,C,u⟩:=Tn (cs:=cs) d.2 o (by grind [aku]) (λe m q=>i (e+1) m q);exact⟨(v,x),⟨[],[],bn,s,by simp_all⟩,t,u⟩
 |.nil,[],c,f,cs,_,_,r,_=>by refine⟨(),⟨bn,?_⟩,trivial⟩;grind [List.drop_eq_nil_iff,aku]
 |.pr _ _,[],_,_,_,_,a,_,_=>a.elim
 |.nil,_::_,_,_,_,_,a,_,_=>a.elim
 |.int _,fs,_,_,_,_,a,_,_=>by cases fs<;>exact a.elim
 |.bool,fs,_,_,_,_,a,_,_=>by cases fs<;>exact a.elim
 |.str,fs,_,_,_,_,a,_,_=>by cases fs<;>exact a.elim
 |.a8 _ _,fs,_,_,_,_,a,_,_=>by cases fs<;>exact a.elim
 |.ptr _ _,fs,_,_,_,_,a,_,_=>by cases fs<;>exact a.elim
 |.osl _,fs,_,_,_,_,a,_,_=>by cases fs<;>exact a.elim
 |.optr _,fs,_,_,_,_,a,_,_=>by cases fs<;>exact a.elim
 |.st _,fs,_,_,_,_,a,_,_=>by cases fs<;>exact a.elim
 |.eF,fs,_,_,_,_,a,_,_=>by cases fs<;>exact a.elim
end
theorem ac3 {g:ah} {h:bF} (l:sS g=bq) (d:fo P g h) (c:alK P w .any a h e):e=c0 g e.cells.toList:=by
 cases g with
 |int r=>
  obtain⟨f,_,_,_,_,b⟩:=d;obtain⟨i,rfl⟩:=apS b c;rfl
 |bool=>
  obtain⟨f,_,_,_,_,b⟩:=d;obtain⟨i,rfl⟩:=apT b c;rfl
 |str=>
  obtain⟨f,_,_,_,_,b⟩:=d;obtain⟨i,rfl⟩:=apU b c;rfl
 |a8 m j=>
  obtain⟨f,k,_,_,_,_,b,_⟩:=d;obtain⟨n,s,o,rfl⟩:=apV b c;rfl
 |ptr m j=>
  obtain⟨f,k,_,_,_,_,b,_⟩:=d;simp only[alK,b,Cell.okWide] at c;cases e<;>first|rfl|simp_all [Cell.ok]
 |st j=>
  obtain⟨_,f,q,t,_,_,_,_,b,_,_⟩:=d;simp only[alK,b] at c;obtain⟨p,rfl,_⟩:=c;rfl
 |_=>first|(cases l;done)|exact d.elim
def xb (P:bY):bm hB->ew->bA
 |[],[]=>bq
 |.v a::c,b::d=>sS a&&h2 P a b&&xb P c d
 |_,_=>bp
def qe:(d:bm hB)->hD d->Prop
 |[],_=>True
 |.v e::b,a=>qd e a.1/\qe b a.2
 |.m _::b,a=>qe b a.2
 |.o _::b,a=>qe b a.2
 |.c _ _::b,a=>qe b a.2
 |.n::b,a=>qe b a.2
 |.w _::b,a=>qe b a.2
 |.s _ _::b,a=>qe b a.2
def MC {P:bY}:∀{ps:bm hB} {b:ew} {k:X},xb P ps b=bq->jM k ps=bo
 |[],_,_,_=>rfl
 |.v g::d,e::f,k,a=>by simp only[xb,bk] at a;exact MC (ps:=d) (k:=k+1) a.2
 |.v _::_,[],_,a=>by cases a
 |.m _::_,b,_,a=>by cases b<;>cases a
 |.o _::_,b,_,a=>by cases b<;>cases a
 |.c _ _::_,b,_,a=>by cases b<;>cases a
 |.n::_,b,_,a=>by cases b<;>cases a
 |.w _::_,b,_,a=>by cases b<;>cases a
 |.s _ _::_,b,_,a=>by cases b<;>cases a
def BC {b:Type}:bm b->es
 |[]=>[]
 |_::a=>[]::BC a
theorem F5 {b:Type}:∀a:bm b,(BC a).flatten=[]
 |[]=>rfl
 |_::a=>by simp only[BC,l0,F5 a,ho]
theorem ME:∀{f:bm hB} {l:ew} {base:X} {b:ey} {i:bm (DataW A)} {r:bm alJ},xb P f l=bq->alL enc P w 0 (λ_=>bq) bq l b i r->(∀(j:X) k g,l[j]?=Y k->b[j]?=Y g->alK P w .any base k g)->∃h:hD f,qe f h/\∀{x:Type} (d:jd f x),mG (y2 (λd=>d<w.heap.size) (λ_=>b4) w) (gK f h d) b (BC b)
 |[],[],base,b,i,r,_,q,_=>by cases b<;>cases i<;>first|exact⟨(),trivial,λ_=>trivial⟩|exact q.elim
 |.v U::Q,y::x,base,b,i,r,e,q,u=>by
  simp only[xb,bk] at e;obtain⟨⟨s,z⟩,B⟩:=e;obtain⟨g,T,K,L,R,S,rfl,rfl,rfl,p,C⟩:=an2 q;obtain⟨M,p⟩:=p;have t:=h2.ok z;obtain⟨J,G,F⟩:=Gw s t p;obtain⟨h,D,E⟩:=ME B C (λj k I N O=>u (j+1) k I (by grind) (by grind));refine⟨(J,h),⟨F,D⟩,λd=>⟨⟨bn,g.cells.toList,ac3 s t (u 0 y g bn rfl),?_⟩,E d⟩⟩;exact G.mono (λH d e=>⟨by cases H with
   |bg=>exact e
   |c9=>exact .inl e,cp _ _⟩) ac
 |[],_::_,_,_,_,_,a,_,_=>by cases a
 |.v _::_,[],_,_,_,_,a,_,_=>by cases a
 |.m _::_,_,_,_,_,_,a,_,_=>by cases a
 |.o _::_,_,_,_,_,_,a,_,_=>by cases a
 |.c _ _::_,_,_,_,_,_,a,_,_=>by cases a
 |.n::_,_,_,_,_,_,a,_,_=>by cases a
 |.w _::_,_,_,_,_,_,a,_,_=>by cases a
theorem Tm {P:bY} (k:laidOutB P=bq) {i j:bC} {o:X->bA}:∀{e:ew} {d:ey} {c:bm (DataW A)} {b:bm alJ},(∀g∈e,P.readableRec g=bq/\g<P.types.size)->alL enc P i 0 (λ_=>bq) bq e d c b->(∀a∈b,i.sameAt j a)->(∀a∈b,o a.block=bq)->alL enc P j 0 o bq e d c b
 |[],d,c,b,_,f,_,_=>by cases d<;>cases c<;>first|exact f|exact f.elim
 |T::e,d,c,b,l,f,m,n=>by obtain⟨y,z,v,w,r,s,rfl,rfl,rfl,p,q⟩:=an2 f;obtain⟨t,u⟩:=l T ac;exact⟨r,s,apW k t u p (λa h=>m a (by grind)) (λa h=>n a (by grind)),Tm k (λg x=>l g (by grind)) q (λa h=>m a (by grind)) (λa h=>n a (by grind)),bn⟩
theorem YQ {E:fF} {F:jO} {l:ChangeSpec} {T:bF} (a4:aC E F) (el:laidOutB E.P=bq) (dl:(k.params.toList.all λd=>E.P.readableRec d&&b9 d E.P.types.size)=bq) (S:xb E.P F.ps k.params.toList=bq) (_hrs:F.rs=[.bool]) (H:k.resultTypes=#[T]) (u:E.P.underlying T=Y .bool) (am:l.vars=[]) (fp:∀c:bm (DataW A),c.length=k.params.toList.length->l.fn A c=⟨[.lit (.bool bq)],c,[]⟩) (d2:∀t,qe F.ps t->∃b,F.yL t=Y b/\jn F.rs (iE F.ps b)=[⟨.bool,bq⟩]) {D a0 ce av:bA} {p:ev} {c y:bm (DataW A)} {g:bm alJ} (d3:∀(r:X) d o,k.params[r]?=Y d->p[r]?=Y o->alK E.P h .any a d o) (I:DataW.Whole enc E.P k.params.toList l.vars D h p.toList c y g) (bl:lv E (λb=>b<h.heap.size) h):Calls E.P F.f p h λG e=>∃o,G=.returned o/\l.post enc E.P k D a0 ce av h p o e:=by
 have J:=I;obtain⟨B,d4,a3,z,R,co,em⟩:=I;rw[am] at z;have cs:y=[]/\d4=[]:=by cases y with
  |nil=>exact⟨bn,z⟩
  |cons=>exact z.elim
 obtain⟨rfl,rfl⟩:=cs;rw[oq] at R;subst R;obtain⟨t,dg,bx⟩:=ME (w:=h) (base:=a) S a3 (λr d o V ad=>d3 r d o (by grind) (by grind));obtain⟨b,bs,ds⟩:=d2 t dg;have ek:∀{s:ew} {C:ey} {c:bm (DataW A)} {B:bm alJ},alL enc E.P h 0 (λ_=>bq) bq s C c B->c.length=s.length:=by
  intro s
  induction s with
  |nil=>intro C c B q;cases C<;>cases c<;>first|rfl|exact q.elim
  |cons T s fs=>
   grind [an2]
 have N:l.fn A (c++[])=⟨[.lit (.bool bq)],c,[]⟩:=(by grind);have Q:=J.lt;have L:=a4.2 t b bs h (λb=>b<h.heap.size) (λ_=>b4) p.toList (BC p.toList) (λb q=>q.elim id (λq=>q.elim)) (bx b) (by grind [F5]) (by rw[F5];simp) (by rw[BL,MC S];trivial);rw[aoQ] at L;refine(L bl).mono ?_;rintro G e ⟨d5,d7,v,cX,rfl,n⟩;refine⟨_,bn,?_⟩;have d1:qR cX=.bool bq:=by
  have:=n.res;rw[ds] at this;cases cX with
  |nil=>cases v<;>exact this.elim
  |cons o cX=>
   cases v with
   |nil=>exact this.elim
   |cons d8 v=>
    obtain⟨⟨d6,ad,_,rfl⟩,d0⟩:=this;cases cX with
    |nil=>exact ad
    |cons=>cases v<;>exact d0.elim
 have O:∀b,b<h.heap.size->e.heap[b]?=h.heap[b]?:=λb u=>n.heap b u (by rw[F5];simp);have ex:∀i∈g,h.sameAt e i:=λi x=>by
  have:=O i.block (Q i x);cases i with
  |cell b j=>show e.cell? _=h.cell? _;unfold alk;rw[show e.heap[b]?=h.heap[b]? from this]
  |map b=>exact this
 have ci:∀b j,aoR b j∈g->e.frozen? ⟨b,j,bo⟩=h.frozen? ⟨b,j,bo⟩:=λb j x=>(by unfold amP;rw[show e.heap[b]?=h.heap[b]? from O b (Q _ x)]);rw[d1];have eq:∀d∈k.params.toList,E.P.readableRec d=bq/\d<E.P.types.size:=λd V=>(by have:=g0.1 dl d V;simp_all);have K:∀m:X->bA,(∀i∈g,m i.block=bq)->alL enc E.P e 0 m bq k.params.toList p.toList (l.fn A (c++[])).args g:=λm fl=>(by grind [Tm]);have U:∀(b:X) (m:X->bA) (M:bA),alL enc E.P e b m M k.resultTypes.toList ((aoS bq).resultList k.resultTypes.size) (l.fn A (c++[])).results []:=λb m M=>(by rw[N,H];exact apX ⟨1,by unfold an1;rw[u];rfl⟩);have an:∀m:X->bA,DataW.TrodVars enc E.P e m l.vars (l.fn A (c++[])).vars []:=λm=>(by rw[N,am];rfl);have c1:∀(r:X) (d:bF) (ap:Value),k.resultTypes[r]?=Y d->((aoS bq).resultList k.resultTypes.size)[r]?=Y ap->alK E.P e .any 0 d ap:=
  Go.RowKit.ok_one H bn (Go.RowKit.okWide_bool_mk u bq)
 have c2:∀i∈g,(λb=>br (b<h.heap.size)) i.block=bq:=λi x=>(by grind);have cv:h.keptBut e (λ_=>b4):=(by refine⟨n.os,n.output,λfr d9=>?_⟩;grind);refine⟨c,[],g,[],g,[],J,U _ _ _,K _ c2,an _,World.keptBut_mono (λ_ q=>q.elim) cv,λ_=>?_⟩;refine⟨c1,_,_,([]++g)++[],⟨[]++g,[],apY (K _ (λ_ _=>rfl)) (U _ _ _),an _,bn,?_,?_⟩,?_⟩
 ·intro b j n;have n:aoR b j∈g:=(by grind);rw[ci b j n];exact co b j n
 ·grind
 grind
end
end
section
inductive GM where
 |a
 |b (f:aj5)
 |c (f m:aj5)
def In (a:X):X:=a/32+a %32*500000
abbrev ad4 (a:X):X×o7:=(a,.s (.ref a []))
abbrev Lw (a:X):X×o7:=(a,.v (.int .i64))
inductive o1 where
 |l
 |o (a:o1)
 |t (j:GR) (a b:o1)
 |n (b:o1)
 |p (BP:nH) (m:GS) (a:o1)
 |k (l:aj5) (a:o1)
 |z (F:aj5) (a:o1)
 |d (L:bm GM)
def Gb (b:bT bR) (a:X) (f c:aj5):lU:=match b[a]? with
 |some d=>⟨a,dl d,d.looksAt b,qP b a,f,c⟩
 |none=>⟨a,[],[],[],f,c⟩
def ED (d:bT bR):X->bm GM->bm lU
 |_,[]=>[]
 |i,.a::e=>Gb d i [] []::ED d (i+1) e
 |i,.b f::e=>Gb d i (f.map In) []::ED d (i+1) e
 |i,.c f g::e=>Gb d i (f.map In) (g.map In)::ED d (i+1) e
def tp:cq->mx
 |.seq a b=>.two .none (tp a) (tp b)
 |.cond _ a b=>.two .none (tp a) (tp b)
 |.block _ a=>.one (tp a)
 |.region _ c bq=>.draw ((bJ c.size).map λd=>Gb c d [] [])
 |_=>.leaf
def Bu:X->X->bm a6
 |0,_=>[]
 |k+1,a=>match a %5 with
  |1=>.deref::Bu k (a/5)
  |2=>.unst::Bu k (a/5)
  |3=>.fst::Bu k (a/5)
  |4=>.snd::Bu k (a/5)
  |_=>[]
def o1.ex:o1->cq->mx
 |.l,a=>tp a
 |.o b,.block _ a=>.one (b.ex a)
 |.t J b c,.seq a e=>.two J (b.ex a) (c.ex e)
 |.t J b c,.cond _ a e=>.two J (b.ex a) (c.ex e)
 |.n c,.seq a e=>.two .none (tp a) (c.ex e)
 |.n c,.cond _ a e=>.two .none (tp a) (c.ex e)
 |.p j h b,.loop a=>.loop j h (b.ex a)
 |.k g b,a=>.keep g (b.ex a)
 |.z f b,a=>match f with
  |[q]=>bif b2 1000000 q then .fp (q %1000000) (Bu 12 (q/1000000)) (b.ex a) else bif bH q 888888 then .zF else .qB f (b.ex a)
  |_=>.qB f (b.ex a)
 |.d g,.region _ i _=>.draw (ED i 0 g)
 |_,_=>.leaf
def zl (E:fF):Type:={a:bm (X×jO)//∀b∈a,aC E b.2}
def aH {E:fF}:zl E:=⟨[],Tf⟩
def aj {E:fF} {a:jO} (c:aC E a) (b:zl E):zl E:=⟨(a.f,a)::b.1,afR c b.2⟩
section
variable {E:fF} {f:X} {fn:Func} {ps:bm hB} {C:bm ah} {D:hD ps->bv (jd ps (lO C))}
def aC.q (d:zl E) (l:o1) (k:E.P.funcs[f]?=Y fn) (j:∀(h:ev) (i:bC),(callFunc f h).run E.P i=.ok (.enter f h) i) (g:bm (X×ah):=[]) (e:aj7:=[]) (a:(fn.body.isSome&&b2 ps.length fn.ntmps)=bq:=by kernel_rfl) (c:∀b,AZ ⟨E.tt,d.1,g,fn.ntmps,kb 0 ps++n5 (jM 0 ps),[],e,jM 0 ps,[],[],E.glob,E.eqs⟩ (l.ex (fn.body.getD .skip)) (fn.body.getD .skip) ps fn.results.toList C b=D b:=by intro b;kernel_rfl):aC E ⟨f,ps,C,D⟩:=
 have a:=bk _ _▸a
 aC.Qm d.1 g e _ [] (λ_ c=>by cases c) k a.1 aoQ.symm a.2 j d.2 c
end
end
def lm (a:X):X×X:=bif b9 (a %32) 28 then(a %32,a/32) else bif bH (a %32) 31 then(a/32 %134217728,a/4294967296) else((a %32-28)*256+a/32 %256+28,a/8192)
def n1 {c:Type} (b:X->c×X):X->X->bm c×X
 |0,a=>([],a)
 |k+1,a=>match a %2 with
  |0=>([],a/2)
  |_=>match b (a/2) with
   |(x,t)=>match n1 b k t with
    |(l,u)=>(x::l,u)
def KG (a:bm ah) (b:X):ah×X:=match lm b with
 |(i,t)=>(a.getD i .nil,t)
def n2 {a b:Type} (c:X->a×X) (d:X->b×X) (e:X):(a×b)×X:=match c e with
 |(x,t)=>match d t with
  |(y,u)=>((x,y),u)
def aej (b:bm ah) (a:X):(X×o7)×X:=match a %4 with
 |0=>match lm (a/4) with
  |(k,t)=>(ad4 k,t)
 |1=>match lm (a/4) with
  |(k,t)=>(Lw k,t)
 |2=>match n2 lm (KG b) (a/4) with
  |((k,x),t)=>((k,.v x),t)
 |_=>match n2 lm lm (a/4) with
  |((k,x),t)=>((k,.s (.ref x [])),t)
def Bz (a:bm ah) (b:X):nH×X:=match n2 (n1 (aej a) 99) (n1 (n2 lm (KG a)) 99) b with
 |((x,y),t)=>(⟨x,y⟩,t)
def aei (b:bm ah) (a:X):GR×X:=match a %3 with
 |0=>(.none,a/3)
 |1=>match n2 (n1 lm 99) (Bz b) (a/3) with
  |((x,y),t)=>(.x x y,t)
 |_=>match n2 (n1 lm 99) (Bz b) (a/3) with
  |((x,y),t)=>(.wD x y,t)
def aek (b:bm ah) (a:X):GS×X:=match a %3 with
 |0=>(.r,a/3)
 |1=>match n2 lm (Bz b) (a/3) with
  |((x,y),t)=>(.x x y,t)
 |_=>match n2 lm (Bz b) (a/3) with
  |((x,y),t)=>(.wD x y,t)
def KE (a:X):X×X:=match a %2 with
 |0=>match lm (a/2) with
  |(k,t)=>(k*32,t)
 |_=>match lm (a/64) with
  |(k,t)=>(k*32+a/2 %32,t)
def aeh (d:X):GM×X:=match d %3 with
 |0=>(.a,d/3)
 |1=>match n1 KE 99 (d/3) with
  |(x,t)=>(.b x,t)
 |_=>match n2 (n1 KE 99) (n1 KE 99) (d/3) with
  |((x,y),t)=>(.c x y,t)
def tX (e:bm ah):X->X->o1×X
 |0,c=>(.l,c)
 |k+1,c=>match c %8 with
  |0=>(.l,c/8)
  |1=>match tX e k (c/8) with
   |(a,t)=>(.o a,t)
  |2=>match aei e (c/8) with
   |(f,t)=>match tX e k t with
    |(a,t)=>match tX e k t with
     |(b,t)=>(.t f a b,t)
  |3=>match tX e k (c/8) with
   |(a,t)=>(.n a,t)
  |4=>match n2 (Bz e) (aek e) (c/8) with
   |((x,y),t)=>match tX e k t with
    |(a,t)=>(.p x y a,t)
  |5=>match n1 lm 99 (c/8) with
   |(x,t)=>match tX e k t with
    |(a,t)=>(.k x a,t)
  |6=>match n1 lm 99 (c/8) with
   |(x,t)=>match tX e k t with
    |(a,t)=>(.z x a,t)
  |_=>match n1 aeh 999 (c/8) with
   |(x,t)=>(.d x,t)
def KF (b:bm ah) (c:X):o1×bm (X×ah)×aj7:=match tX b 999 c with
 |(a,t)=>match n2 (n1 (n2 lm (KG b)) 99) (n1 (n2 lm lm) 99) t with
  |((x,y),_)=>(a,x,y)
def VT {b:bY} (h:b.funcs[a]?=Y k) (i:(k.name=="runtime.NumGoroutine")=bp) (g:k.body.isSome=bq) (c:ev) (d:bC):(callFunc a c).run b d=.ok (.enter a c) d:=by have e:k.name≠"runtime.NumGoroutine":=(by simpa using i);obtain⟨j,f⟩:=GZ.1 g;simp[callFunc,h,e,f,Sem.run]
section
def ae {α:Type} (c:bv α) (b:α->Prop):Prop:=∃a,c=Y a/\b a
section
variable {α A σ ρ τ:Type}
theorem ae.af {a:α} {b:α->Prop}:ae (Y a) b↔b a:=⟨λ⟨_,c,d⟩=>by grind,λc=>⟨a,bn,c⟩⟩
theorem ae.tP {a:α->Prop}:ae bo a↔False:=⟨(λ⟨_,b,_⟩=>by cases b),False.elim⟩
theorem ae.fb {x:bv α} {b:α->bv A} {a:A->Prop}:ae (x.bind b) a↔ae x (λc=>ae (b c) a):=by
 cases x with
 |none=>grind [ae.tP]
 |some c=>grind [ae.af]
theorem ae.JG {a:bv α} {c:α->A} {b:A->Prop}:ae (a.map c) b↔ae a (λd=>b (c d)):=by
 cases a with
 |none=>grind [ae.tP]
 |some d=>grind [ae.af]
theorem ae.fg {b:bA} {c d:bv α} {a:α->Prop}:ae (bif b then c else d) a↔(b=bq->ae c a)/\(b=bp->ae d a):=by grind
theorem ae.mono {c:bv α} {P b:α->Prop} (d:ae c P) (g:∀a,P a->b a):ae c b:=let⟨a,e,f⟩:=d;⟨a,e,g a f⟩
def ae.eq_iff {c:bv α} {b:α}:ae c (· =b)↔c=Y b:=⟨λ⟨e,a,d⟩=>by rw[a,d],λa=>⟨b,a,bn⟩⟩
theorem ae.OD {a:bm α} {b:α->Prop}:ae (ar a d) b↔∃(e:d.toNat<a.length),0<=d/\b a[d.toNat]:=by
 unfold ar;by_cases c:0<=d
 ·rw[aw c];grind [alM,ae.tP,bX,ae.af]
 rw[au c,ae.tP];grind
theorem ae.kQ {b:bm α} {c:α->Prop}:ae (ar b (a:Z)) c↔∃(d:a<b.length),c b[a]:=by rw[ae.OD];simp
theorem ae.E8:ae (ba a d) l↔(0<=d/\d.toNat<a)/\l d.toNat:=by
 unfold ba;by_cases b:0<=d/\d.toNat<a
 ·simp_all [aw,ae.af]
 rw[au b,ae.tP];simp[b]
theorem ae.yb {b:bt->Prop}:ae (cI a) b↔a<=hJ/\b ():=by
 unfold cI;by_cases c:a<=hJ
 ·simp_all [aw,ae.af]
 rw[au c,ae.tP];simp[c]
theorem ae.JF {a:Z}:ae (fR d a) l↔(0<=d/\d<=a/\a<=(hJ:Z))/\l d.toNat:=by
 unfold fR;by_cases b:0<=d/\d<=a/\a<=(hJ:Z)
 ·simp_all [aw,ae.af]
 rw[au b,ae.tP];simp[b]
def a1 (d:bm α) (c:X) (b:α->bv A):bv A:=match d[c]? with
 |some a=>b a
 |none=>bo
theorem ae.CC {b:bm α} {d:α->bv A} {c:A->Prop}:ae (a1 b a d) c↔∃(e:a<b.length),ae (d b[a]) c:=by grind [alM,ae.tP,bX,a1]
theorem ae.loop {g:σ->bv (σ⊕ρ)} {f:ρ->Prop} (d:σ->Prop) (e:σ->X) {a:σ} (m:d a) (k:∀a,d a->ae (g a) (λ|.inl l=>d l/\e l<e a|.inr b=>f b)):ae (loop g a) f:=by
 have o:∀c a,e a<=c->d a->∃b,ky g (c+1) a=Y b/\f b:=by
  intro c
  induction c with
  |zero=>
   intro a n j;obtain⟨p,h,i⟩:=k a j;grind [ky]
  |succ c q=>
   intro a n j;obtain⟨p,h,i⟩:=k a j;grind [ky]
 obtain⟨b,h,i⟩:=o (e a) a (bd _) m;exact⟨b,A8.2 ⟨_,h⟩,i⟩
theorem ae.for {h:Z×τ->bv ((Z×τ)⊕ρ)} {g:ρ->Prop} (b:X) (e:X->τ->Prop) {i0:X} {m:τ} (o:d=(i0:Z)) (n:e i0 m) (k:i0<=b) (q:∀a c,i0<=a->a<b->e a c->ae (h ((a:Z),c)) (λ|.inl l=>l.1=((a+1:X):Z)/\e (a+1) l.2|.inr i=>g i)) (s:∀c,e b c->ae (h ((b:Z),c)) (λ|.inl _=>b4|.inr i=>g i)):ae (jy.loop h (d,m)) g:=by
 subst o;refine ae.loop (λf=>∃a:X,i0<=a/\a<=b/\f.1=(a:Z)/\e a f.2) (λf=>b-f.1.toNat) ⟨i0,bd _,k,bn,n⟩ ?_;rintro⟨t,c⟩ ⟨a,p,k,rfl,r⟩;rcases cT a b with j|j
 ·refine(q a c p j r).mono ?_;grind
 grind [mono]
end
theorem agz (a:Z):bL.wrap a=if(9223372036854775808:Z)<=a %18446744073709551616 then a %18446744073709551616-18446744073709551616 else a %18446744073709551616:=by
 unfold alN;by_cases b:(9223372036854775808:Z)<=a %18446744073709551616
 ·rw[aw b];exact aw (show(bq&&br (a %18446744073709551616>=(9223372036854775808:Z)))=bq by simp[b])
 rw[au b];exact au (show¬(bq&&br (a %18446744073709551616>=(9223372036854775808:Z)))=bq by simp[b])
theorem wrap64 (a:-9223372036854775808<=d) (b:d<=9223372036854775807):bL.wrap d=d:=by grind [agz]
theorem jg (b:a<9223372036854775807):bL.wrap ((a:Z)+1)=((a+1:X):Z):=by grind [wrap64]
end
section
abbrev al {α:Type} (a:bm α):Z:=((a.length:X):Z)
abbrev ax (a:Z):Z:=bL.wrap a
abbrev aK (a:Z):Z:=bD.wrap a
abbrev eC (a:Z):Z:=cb.wrap a
abbrev aM (a:Z):Z:=bL.wrap (a+1)
def rd {α A:Type} (a:bm α) (c:Z) (e:α->bv A):bv A:=(ba a.length c).bind λd=>(a1 a d λb=>Y b).bind e
def wr {α A:Type} (a:bm α) (c:Z) (e:α) (d:bm α->bv A):bv A:=(ba a.length c).bind λb=>(a1 a b λ_=>Y (a.set b e)).bind d
section
variable {α A:Type}
def je {b:bm α} (d:a<b.length) (c:α->bv A):rd b (a:Z) c=c b[a]:=by unfold rd ba;rw[aw ⟨aa,by simpa using d⟩];show(a1 b (a:Z).toNat _).bind c=_;unfold a1;rw[fU,bi d];rfl
def ael {b:bm α} {c:α} (f:0<=d) (e:b[d.toNat]?=Y c) (a:α->bv A):rd b d a=a c:=by obtain⟨g,h⟩:=hT.1 e;obtain⟨j,rfl⟩:=gh f;have i:j<b.length:=g;exact(je i a).trans (b6 a h)
theorem lr {b:bm α} (d:a<b.length) (e:α) (c:bm α->bv A):wr b (a:Z) e c=c (b.set a e):=by unfold wr ba;rw[aw ⟨aa,by simpa using d⟩];show(a1 b (a:Z).toNat _).bind c=_;unfold a1;rw[fU,bi d];rfl
end
end
def C8:dV->aj3:=λ(e,h,_)=>(loop (σ:=eg) (ρ:=dZ) (λ(f,c,_)=>bif br (c<((e.length:X):Z)) then(bB (α:=ei⊕dH) ((ar e c).bind λd=>bB (α:=bt⊕(ei⊕dH)) (bw (br (d<=f)==bp) (bw (br (d>=h)) (Y (.inr (.inr (.inr (.inr (bp,())))))) (Y (.inl ()))) (Y (.inr (.inr (.inr (.inr (bp,()))))))) λa=>match a with
 |.inl _=>(Y (.inl (d,())))
 |.inr b=>Y b) λa=>match a with
 |.inl (g,_)=>(Y (.inl (g,bL.wrap (c+(1:Z)),())))
 |.inr b=>Y b) else Y (.inr (.inl ()))) ((-1:Z),(0:Z),())).bind λa=>match a with
 |.inl _=>(Y (bq,()))
 |.inr b=>Y b
def s2:ei->aj3:=λ(a,_)=>Y ((a !=a),())
def u2:eg->aj3:=λ(a,b,_)=>(s2 (a,())).bind λ(c,_)=>(bw (c==bq) ((s2 (b,())).bind λ(aS,_)=>bw ((!aS)==bp) (Y (br (a<b),())) (Y (bq,()))) (Y (br (a<b),())))
def DS:ei->aj3:=λ(a,_)=>Y ((a !=a),())
def vd:dV->bv ed:=λ(b,e,_)=>(loop (σ:=eg) (ρ:=ei) (λ(c,d,_)=>bw (br (c<d)) ((eN bD (bD.wrap (bL.wrap (c+d))) (1:Z)).bind λf=>(ar b (bL.wrap f)).bind λk=>(u2 (k,e,())).bind λ(i,_)=>bw i (Y (.inl (bL.wrap (bL.wrap f+(1:Z)),d,()))) (Y (.inl (c,bL.wrap f,())))) (Y (.inr (c,())))) ((0:Z),((b.length:X):Z),())).bind λ(a,_)=>(bw (br (a<((b.length:X):Z))==bq) ((ar b a).bind λl=>bw ((l==e)==bp) ((ar b a).bind λj=>(DS (j,())).bind λ(g,_)=>bw (g==bq) ((DS (e,())).bind λ(h,_)=>Y (a,h,())) (Y (a,bp,()))) (Y (a,bq,()))) (Y (a,bp,())))
def xv:(dR×Z×Z×bt)->aj3:=λ(a,c,d,_)=>(ar a.1 c).bind λe=>(vd (e,d,())).bind λ(_,b,_)=>Y (b,())
def zQ:dN->aj4:=λ(a,_)=>(bif br ((((a.1).length:X):Z)>(200:Z)) then Y ((6:Z),()) else((loop (σ:=ei) (ρ:=eb) (λ(d,_)=>bif br (d<(((a.1).length:X):Z)) then(bB (α:=bt⊕dM) ((ar a.1 d).bind λj=>(C8 (j,(((a.1).length:X):Z),())).bind λ(aS,_)=>bw ((!aS)==bp) ((xv (a,d,d,())).bind λ(i,_)=>bw i (Y (.inr (.inr (.inr ((1:Z),()))))) (Y (.inl ()))) (Y (.inr (.inr (.inr ((1:Z),())))))) λb=>match b with
 |.inl _=>(Y (.inl (bL.wrap (d+(1:Z)),())))
 |.inr c=>Y c) else Y (.inr (.inl ()))) ((0:Z),())).bind λb=>match b with
 |.inl _=>((loop (σ:=ei) (ρ:=eb) (λ(e,_)=>bif br (e<(((a.1).length:X):Z)) then((ar a.1 e).bind λg=>(loop (σ:=ei) (ρ:=dE) (λ(f,_)=>bw (br (f<((g.length:X):Z))) ((ar g f).bind λk=>(xv (a,k,e,())).bind λ(h,_)=>bw (!h) (Y (.inr (.inr (.inr (.inr ((1:Z),())))))) (Y (.inl (bL.wrap (f+(1:Z)),())))) (Y (.inr (.inl ())))) ((0:Z),())).bind λb=>match b with
 |.inl _=>(Y (.inl (bL.wrap (e+(1:Z)),())))
 |.inr c=>Y c) else Y (.inr (.inl ()))) ((0:Z),())).bind λb=>match b with
 |.inl _=>(Y ((0:Z),()))
 |.inr c=>Y c)
 |.inr c=>Y c))
def DX:(aj6×aj6×bt)->aj3:=λ(b,c,_)=>(bif ((b.length:X):Z)!=((c.length:X):Z) then Y (bp,()) else((loop (σ:=ei) (ρ:=dZ) (λ(a,_)=>bw (br (a<((b.length:X):Z))) ((ar b a).bind λf=>(ar c a).bind λg=>bw (f !=g) (Y (.inr (.inr (bp,())))) (Y (.inl (bL.wrap (a+(1:Z)),())))) (Y (.inr (.inl ())))) ((0:Z),())).bind λd=>match d with
 |.inl _=>(Y (bq,()))
 |.inr e=>Y e))
def DW:ee->aj3:=λ(b,_)=>(loop (σ:=ei) (ρ:=dZ) (λ(a,_)=>bw (br (a<((b.length:X):Z))) ((ar b a).bind λe=>(ar b (bL.wrap (a-(1:Z)))).bind λf=>bw (br (e<=f)) (Y (.inr (.inr (bp,())))) (Y (.inl (bL.wrap (a+(1:Z)),())))) (Y (.inr (.inl ())))) ((1:Z),())).bind λc=>match c with
 |.inl _=>(Y (bq,()))
 |.inr d=>Y d
def Ay:dQ->bv dN:=λ(f,_)=>(loop (σ:=dr) (ρ:=dt) (λ(b,l,i,_)=>bif br (b<((f.length:X):Z)) then(loop (σ:=(Z×dR×dR×aj6×bt)) (ρ:=dn) (λ(a,e,c,d,_)=>bif br (a<((f.length:X):Z)) then bB (α:=dn) (bB (α:=(bA×dR×dR×aj6×bt)) (bw ((b !=a)==bq) ((ar f b).bind λt=>(ar t a).bind λu=>bw (u==bp) ((ar f a).bind λv=>(ar v b).bind λw=>Y (w,e,c,d,())) (Y (bq,e,c,d,()))) (Y (bp,e,c,d,()))) λ(q,m,j,h,_)=>
 bw q ((cI (h.length+([a]).length)).bind λ_=>Y (m,j,(h++[a]),())) (Y (m,j,h,()))) λ(r,n,p,_)=>Y (.inl (bL.wrap (a+(1:Z)),r,n,p,())) else Y (.inr (e,c,d,()))) ((0:Z),l,i,[],())).bind λ(s,g,k,_)=>(cI ((g.1).length+([k]).length)).bind λ_=>Y (.inl (bL.wrap (b+(1:Z)),s,((g.1++[k]),g.2),())) else Y (.inr (l,i,()))) ((0:Z),([],()),([],()),())).bind λ(_,o,_)=>Y (o,())
def Ah:dV->aj3:=λ(b,e,_)=>(loop (σ:=ei) (ρ:=dZ) (λ(a,_)=>bw (br (a<((b.length:X):Z))) ((ar b a).bind λf=>bw (f==e) (Y (.inr (.inr (bq,())))) (Y (.inl (bL.wrap (a+(1:Z)),())))) (Y (.inr (.inl ())))) ((0:Z),())).bind λc=>match c with
 |.inl _=>(Y (bp,()))
 |.inr d=>Y d
def xO:dN->aj4:=λ(a,_)=>(bif br ((((a.1).length:X):Z)>(200:Z)) then Y ((6:Z),()) else((loop (σ:=ei) (ρ:=eb) (λ(b,_)=>bif br (b<(((a.1).length:X):Z)) then(ar a.1 b).bind λh=>(DW (h,())).bind λ(aS,_)=>bif !aS then Y (.inr (.inr ((1:Z),()))) else((loop (σ:=ei) (ρ:=dE) (λ(f,_)=>(ar a.1 b).bind λi=>bif br (f<((i.length:X):Z)) then(bB (α:=bt⊕(ei⊕dE)) ((ar a.1 b).bind λj=>(ar j f).bind λe=>bw (br (e<(0:Z))==bp) (bw (br (e>=(((a.1).length:X):Z))==bp) (bw ((e==b)==bp) ((ar a.1 e).bind λk=>(Ah (k,b,())).bind λ(g,_)=>bw (!g) (Y (.inr (.inr (.inr (.inr (.inr ((1:Z),()))))))) (Y (.inl ()))) (Y (.inr (.inr (.inr (.inr (.inr ((1:Z),())))))))) (Y (.inr (.inr (.inr (.inr (.inr ((1:Z),())))))))) (Y (.inr (.inr (.inr (.inr (.inr ((1:Z),())))))))) λc=>match c with
 |.inl _=>(Y (.inl (bL.wrap (f+(1:Z)),())))
 |.inr d=>Y d) else Y (.inr (.inl ()))) ((0:Z),())).bind λc=>match c with
 |.inl _=>(Y (.inl (bL.wrap (b+(1:Z)),())))
 |.inr d=>Y d) else Y (.inr (.inl ()))) ((0:Z),())).bind λc=>match c with
 |.inl _=>(Y ((0:Z),()))
 |.inr d=>Y d))
def Ek:dV->aj3:=λ(b,e,_)=>(loop (σ:=ei) (ρ:=dZ) (λ(a,_)=>bif br (a<((b.length:X):Z)) then(bB (α:=bt⊕dL) ((ar b a).bind λf=>bw (br (f<(0:Z))==bp) ((ar b a).bind λg=>bw (br (g>=e)) (Y (.inr (.inr (.inr (bp,()))))) (Y (.inl ()))) (Y (.inr (.inr (.inr (bp,())))))) λc=>match c with
 |.inl _=>(Y (.inl (bL.wrap (a+(1:Z)),())))
 |.inr d=>Y d) else Y (.inr (.inl ()))) ((0:Z),())).bind λc=>match c with
 |.inl _=>(Y (bq,()))
 |.inr d=>Y d
def Em:ee->aj3:=λ(b,_)=>(loop (σ:=ei) (ρ:=dZ) (λ(a,_)=>bw (br (a<((b.length:X):Z))) (((Y (0)).bind λc=>(g8 a).bind λd=>(hZ c d b.length).map λ_=>(c,d)).bind λe=>(ar b a).bind λi=>(Ah (((b.take e.2).drop e.1),i,())).bind λ(h,_)=>bw h (Y (.inr (.inr (bq,())))) (Y (.inl (bL.wrap (a+(1:Z)),())))) (Y (.inr (.inl ())))) ((0:Z),())).bind λf=>match f with
 |.inl _=>(Y (bp,()))
 |.inr g=>Y g
def Az:dN->bv dQ:=λ(a,_)=>(loop (σ:=dO) (ρ:=dQ) (λ(c,g,_)=>bw (br (c<(((a.1).length:X):Z))) ((fR (((a.1).length:X):Z) (((a.1).length:X):Z)).bind λj=>(loop (σ:=(Z×er×aj2×bt)) (ρ:=(er×aj2×bt)) (λ(d,h,b,_)=>(ar a.1 c).bind λm=>bw (br (d<((m.length:X):Z))) ((ar a.1 c).bind λn=>(ar n d).bind λl=>(ba b.length l).bind λe=>(a1 b e λ_=>Y (b.set e bq)).bind λo=>Y (.inl (bL.wrap (d+(1:Z)),h,o,()))) (Y (.inr (h,b,())))) ((0:Z),g,bI j bp,())).bind λ(f,i,_)=>(cI (f.length+([i]).length)).bind λ_=>Y (.inl (bL.wrap (c+(1:Z)),(f++[i]),()))) (Y (.inr (g,())))) ((0:Z),[],())).bind λ(k,_)=>
 Y (k,())
def AA:ei->bv dQ:=λ(a,_)=>(loop (σ:=dO) (ρ:=dQ) (λ(c,b,_)=>bw (br (c<a)) ((fR a a).bind λd=>(cI (b.length+([bI d bp]).length)).bind λ_=>Y (.inl (bL.wrap (c+(1:Z)),(b++[bI d bp]),()))) (Y (.inr (b,())))) ((0:Z),[],())).bind λ(e,_)=>Y (e,())
def En:dC->bv dJ:=λ(e,a,_)=>(xO (e,())).bind λ(j,_)=>(bif j !=(0:Z) then Y (([],()),j,()) else(Ek (a,(((e.1).length:X):Z),())).bind λ(aS,_)=>bif !aS then Y (([],()),(3:Z),()) else(Em (a,())).bind λ(r,_)=>bif r then Y (([],()),(90:Z),()) else(Az (e,())).bind λ(s,_)=>(AA (((a.length:X):Z),())).bind λ(t,_)=>(loop (σ:=dv) (ρ:=dw) (λ(c,l,i,_)=>bif br (c<((a.length:X):Z)) then(loop (σ:=dv) (ρ:=dw) (λ(d,k,b,_)=>bif br (d<((a.length:X):Z)) then(ba b.length c).bind λf=>(ar a c).bind λv=>
 (ar s v).bind λw=>(ar a d).bind λx=>(ar w x).bind λy=>((a1 b f λm=>Y m).bind λn=>ba n.length d).bind λh=>(a1 b f λg=>(a1 g h λ_=>Y (g.set h y)).map λz=>b.set f z).bind λA=>Y (.inl (bL.wrap (d+(1:Z)),k,A,())) else Y (.inr (k,b,()))) ((0:Z),l,i,())).bind λ(u,o,_)=>Y (.inl (bL.wrap (c+(1:Z)),u,o,())) else Y (.inr (l,i,()))) ((0:Z),([],()),t,())).bind λ(_,p,_)=>(Ay (p,())).bind λ(q,_)=>Y (q,(0:Z),()))
def Eo:dN->bv dy:=λ(a,_)=>(Az (a,())).bind λ(c,_)=>(fR (((a.1).length:X):Z) (((a.1).length:X):Z)).bind λb=>Y ((c,(bI b bp,())),())
def AC:(bv dI×Z×bt)->bv ee:=λ(b,h,_)=>(loop (σ:=dX) (ρ:=ee) (λ(a,d,_)=>b.bind λj=>bw (br (a<(((j.1).length:X):Z))) (bB (α:=ee) (bB (α:=(bA×aj6×bt)) (b.bind λk=>(ar k.1 h).bind λl=>(ar l a).bind λm=>bw (m==bq) (b.bind λn=>(ar n.2.1 a).bind λi=>Y ((!i),d,())) (Y (bp,d,()))) λ(g,c,_)=>bw g ((cI (c.length+([a]).length)).bind λ_=>Y ((c++[a]),())) (Y (c,()))) λ(e,_)=>Y (.inl (bL.wrap (a+(1:Z)),e,()))) (Y (.inr (d,())))) ((0:Z),[],())).bind λ(f,_)=>Y (f,())
def AB:(dI×Z×bt)->bv dy:=λ(h,l,_)=>(AC (Y h,l,())).bind λ(e,_)=>(loop (σ:=dx) (ρ:=dy) (λ(c,i,_)=>bif br (c<((e.length:X):Z)) then(loop (σ:=dx) (ρ:=dy) (λ(d,a,_)=>bif br (d<((e.length:X):Z)) then bB (α:=dy) (bw (c !=d) ((ar e c).bind λr=>(ba (a.1).length r).bind λf=>(ar e d).bind λq=>((a1 a.1 f λm=>Y m).bind λn=>ba n.length q).bind λj=>((a1 a.1 f λg=>(a1 g j λ_=>Y (g.set j bq)).map λs=>(a.1).set f s).map λt=>(t,a.2)).bind λu=>Y (u,())) (Y (a,()))) λ(o,_)=>
 Y (.inl (bL.wrap (d+(1:Z)),o,())) else Y (.inr (a,()))) ((0:Z),i,())).bind λ(p,_)=>Y (.inl (bL.wrap (c+(1:Z)),p,())) else Y (.inr (i,()))) ((0:Z),h,())).bind λ(b,_)=>(ba (b.2.1).length l).bind λk=>(((a1 b.2.1 k λ_=>Y ((b.2.1).set k bq)).map λv=>(v,b.2.2)).map λw=>(b.1,w)).bind λx=>Y (x,())
def AD:dN->bv (et×Z×bt):=λ(b,_)=>(xO (b,())).bind λ(e,_)=>(bw (e !=(0:Z)) (Y ([],e,())) ((Eo (b,())).bind λ(i,_)=>(loop (σ:=(Z×dI×et×bt)) (ρ:=dR) (λ(a,f,c,_)=>bw (br (a<(((b.1).length:X):Z))) ((AC (Y f,a,())).bind λ(d,_)=>(cI (([a]).length+d.length)).bind λ_=>(cI (c.length+([([a]++d)]).length)).bind λ_=>(AB (f,a,())).bind λ(g,_)=>Y (.inl (bL.wrap (a+(1:Z)),g,(c++[([a]++d)]),()))) (Y (.inr (c,())))) ((0:Z),i,[],())).bind λ(h,_)=>Y (h,(0:Z),())))
def DB:eg->bv eg:=λ(b,a,_)=>(eN bD b (32:Z)).bind λc=>(eN bD a (32:Z)).bind λd=>(eN bD (bD.wrap (e0 bD b (4294967295:Z)*e0 bD a (4294967295:Z))) (32:Z)).bind λe=>(eN bD (bD.wrap (bD.wrap (c*e0 bD a (4294967295:Z))+e)) (32:Z)).bind λf=>(eN bD (bD.wrap (e0 bD (bD.wrap (bD.wrap (c*e0 bD a (4294967295:Z))+e)) (4294967295:Z)+bD.wrap (e0 bD b (4294967295:Z)*d))) (32:Z)).bind λg=>Y (bD.wrap (bD.wrap (bD.wrap (c*d)+f)+g),bD.wrap (b*a),())
def H4:eg->bv eg:=λ(b,c,_)=>(DB (b,c,())).bind λ(a,aS,_)=>Y (a,aS,())
def DP:dV->bv ee:=λ(f,g,_)=>bB (α:=bt) (bw (br (g<(0:Z))) bo (Y ())) λ_=>(H4 (bD.wrap ((f.length:X):Z),bD.wrap g,())).bind λ(m,aS,_)=>bB (α:=bt) (bB (α:=eh) (bw (br (m>(0:Z))==bp) (Y (br (aS>(9223372036854775807:Z)),())) (Y (bq,()))) λ(n,_)=>bw n bo (Y ())) λ_=>(fR (bL.wrap aS) (bL.wrap aS)).bind λe=>(loop (σ:=dX) (ρ:=ee) (λ(b,a,_)=>bif br (b<((a.length:X):Z)) then((g8 b).bind λk=>(Y (a.length)).bind λh=>(hZ k h a.length).bind λ_=>(wa a.length).map λ_=>(k,h)).bind λc=>((Y (0)).bind λi=>(g8 b).bind λj=>(hZ i j a.length).bind λ_=>(wa a.length).map λ_=>(i,j)).bind λd=>Y (.inl (bL.wrap (b+((min ((a.take d.2).drop d.1).length (c.2-c.1):X):Z)),jF a ((a.take d.2).drop d.1) c.1 c.2,())) else
 Y (.inr (a,()))) (((min f.length ((bI e (0:Z)).length-0):X):Z),jF (bI e (0:Z)) f 0 (bI e (0:Z)).length,())).bind λ(l,_)=>Y (l,())
def Ew:(bm dK×Z×bt)->bv dT:=λ(g,h,_)=>(loop (σ:=dX) (ρ:=dD) (λ(e,b,_)=>bif br (e<((g.length:X):Z)) then(bB (α:=ee⊕dp) ((ar g e).bind λa=>bB (α:=(aj6×dK×bt)⊕(ee⊕dp)) (bB (α:=(bA×aj6×dK×bt)) (bw ((a.1 !=((b.length:X):Z))==bp) (bw (br (a.2.1<=a.1)==bp) (Y (br (a.2.1>h),b,a,())) (Y (bq,b,a,()))) (Y (bq,b,a,()))) λ(o,m,l,_)=>bw o (Y (.inr (.inr (.inr (.inr ([],bp,())))))) (Y (.inl (m,l,())))) λc=>match c with
 |.inl (i,f,_)=>((DP ([e],bL.wrap (f.2.1-f.1),())).bind λ(k,_)=>(cI (i.length+k.length)).bind λ_=>Y (.inl ((i++k),())))
 |.inr d=>Y d) λc=>match c with
 |.inl (n,_)=>(Y (.inl (bL.wrap (e+(1:Z)),n,())))
 |.inr d=>Y d) else Y (.inr (.inl (b,())))) ((0:Z),[],())).bind λc=>match c with
 |.inl (j,_)=>(Y (j,(((j.length:X):Z)==h),()))
 |.inr d=>Y d
def Ey:(dK×Z×bt)->aj3:=λ(a,g,_)=>(bif br ((((a.2.2.1).length:X):Z)<bL.wrap (a.2.1-a.1)) then Y (bp,()) else((loop (σ:=ei) (ρ:=dZ) (λ(b,_)=>bif br (b<(((a.2.2.1).length:X):Z)) then(bB (α:=bt⊕dL) ((ar a.2.2.1 b).bind λc=>bB (α:=eh) (bw (br (b<bL.wrap (a.2.1-a.1))==bq) (Y ((c !=bL.wrap (a.1+b)),())) (Y (bp,()))) λ(f,_)=>bw f (bw f (Y (.inr (.inr (.inr (bp,()))))) (Y (.inl ()))) (bw (br (b>=bL.wrap (a.2.1-a.1))==bq) (bw (br (c<a.2.1)==bp) (bw (br (c>=g)==bp) ((ar a.2.2.1 (bL.wrap (b-(1:Z)))).bind λh=>bw (br (c<=h)) (Y (.inr (.inr (.inr (bp,()))))) (Y (.inl ()))) (Y (.inr (.inr (.inr (bp,())))))) (Y (.inr (.inr (.inr (bp,())))))) (Y (.inl ())))) λd=>match d with
 |.inl _=>(Y (.inl (bL.wrap (b+(1:Z)),())))
 |.inr e=>Y e) else Y (.inr (.inl ()))) ((0:Z),())).bind λd=>match d with
 |.inl _=>(Y (bq,()))
 |.inr e=>Y e))
def Ex:(bm dK×aj6×dK×bt)->aj3:=λ(f,g,a,_)=>((g8 (bL.wrap (a.2.1-a.1))).bind λd=>(Y ((a.2.2.1).length)).bind λe=>(hZ d e (a.2.2.1).length).map λ_=>(d,e)).bind λb=>(bif (((((a.2.2.1).take b.2).drop b.1).length:X):Z)==(0:Z) then Y ((a.2.2.2.1==(-1:Z)),()) else(ar (((a.2.2.1).take b.2).drop b.1) (0:Z)).bind λm=>(ar g m).bind λn=>bif a.2.2.2.1 !=n then Y (bp,()) else((loop (σ:=ei) (ρ:=dZ) (λ(c,_)=>bw (br (c<(((((a.2.2.1).take b.2).drop b.1).length:X):Z))) ((ar (((a.2.2.1).take b.2).drop b.1) c).bind λk=>(ar f a.2.2.2.1).bind λl=>(vd (l.2.2.1,k,())).bind λ(_,j,_)=>bw (!j) (Y (.inr (.inr (bp,())))) (Y (.inl (bL.wrap (c+(1:Z)),())))) (Y (.inr (.inl ())))) ((0:Z),())).bind λh=>match h with
 |.inl _=>(Y (bq,()))
 |.inr i=>Y i))
def Ii:(dK×ez×bt)->aj3:=λ(a,b,_)=>b.bind λc=>(Ey (a,c,())).bind λ(aS,_)=>Y ((!aS),())
def H8:dm->aj4:=λ(b,c,_)=>(loop (σ:=ei) (ρ:=eb) (λ(a,_)=>bw (br (a<((b.length:X):Z))) ((ar b a).bind λg=>(Ii (g,c.1,())).bind λ(f,_)=>bw f (Y (.inr (.inr (a,())))) (Y (.inl (bL.wrap (a+(1:Z)),())))) (Y (.inr (.inl ())))) ((0:Z),())).bind λd=>match d with
 |.inl _=>(Y ((-1:Z),()))
 |.inr e=>Y e
def DJ:dm->aj3:=λ(c,a,_)=>(H8 (c,(a.1,()),())).bind λ(b,_)=>Y (br (b>=(0:Z)),())
def Ij:(dK×bv dA×eo×bt)->aj3:=λ(a,b,c,_)=>b.bind λe=>c.bind λf=>(Ex (e,f,a,())).bind λ(d,_)=>Y ((!d),())
def H9:dj->aj4:=λ(c,b,_)=>(loop (σ:=ei) (ρ:=eb) (λ(a,_)=>bw (br (a<((c.length:X):Z))) ((ar c a).bind λg=>(Ij (g,b.1,b.2.1,())).bind λ(f,_)=>bw f (Y (.inr (.inr (a,())))) (Y (.inl (bL.wrap (a+(1:Z)),())))) (Y (.inr (.inl ())))) ((0:Z),())).bind λd=>match d with
 |.inl _=>(Y ((-1:Z),()))
 |.inr e=>Y e
def DK:dj->aj3:=λ(c,a,_)=>(H9 (c,(a.1,a.2.1,()),())).bind λ(b,_)=>Y (br (b>=(0:Z)),())
def vp:(dR×bm dK×bt)->aj4:=λ(c,d,_)=>(zQ (c,())).bind λ(i,_)=>(bif i !=(0:Z) then Y (i,()) else((Ew (d,(((c.1).length:X):Z),())).bind λ(aS,p,_)=>bB (α:=ee⊕ei) (bw ((!p)==bp) ((DJ (d,(Y (((c.1).length:X):Z),()),())).bind λ(q,_)=>bw q (Y (.inr ((211:Z),()))) (Y (.inl (aS,())))) (Y (.inr ((211:Z),())))) λa=>match a with
 |.inl (h,_)=>((DK (d,(Y d,Y h,()),())).bind λ(r,_)=>bif r then Y ((211:Z),()) else((loop (σ:=dX) (ρ:=eb) (λ(e,l,_)=>bif br (e<(((c.1).length:X):Z)) then((ar c.1 e).bind λj=>(loop (σ:=dX) (ρ:=dq) (λ(g,f,_)=>bif br (g<((j.length:X):Z)) then(bB (α:=ee⊕(dX⊕dq)) ((ar j g).bind λk=>bw (br (k>e)) (Y (.inl (f,()))) ((ar f k).bind λs=>(ar d s).bind λt=>(vd (t.2.2.1,e,())).bind λ(_,o,_)=>bw (!o) (Y (.inr (.inr (.inr (.inr (.inr ((211:Z),()))))))) (Y (.inl (f,()))))) λa=>match a with
 |.inl (m,_)=>(Y (.inl (bL.wrap (g+(1:Z)),m,())))
 |.inr b=>Y b) else Y (.inr (.inl (f,())))) ((0:Z),l,())).bind λa=>match a with
 |.inl (n,_)=>(Y (.inl (bL.wrap (e+(1:Z)),n,())))
 |.inr b=>Y b) else Y (.inr (.inl ()))) ((0:Z),h,())).bind λa=>match a with
 |.inl _=>(Y ((0:Z),()))
 |.inr b=>Y b))
 |.inr b=>Y b))
def DY:dV->aj3:=λ(b,c,_)=>(bif ((b.length:X):Z)!=c then Y (bp,()) else((fR c c).bind λk=>(loop (σ:=dU) (ρ:=dZ) (λ(a,g,_)=>bif br (a<c) then(bB (α:=ec⊕dz) (bB (α:=ec⊕(ec⊕dz)) ((ar b a).bind λo=>bw (br (o<(0:Z))==bp) ((ar b a).bind λp=>bw (br (p>=c)==bp) ((ar b a).bind λq=>(ba g.length q).bind λj=>(a1 g j λi=>Y i).bind λm=>bw m (Y (.inr (.inr (.inr (.inr (bp,())))))) (Y (.inl (g,())))) (Y (.inr (.inr (.inr (.inr (bp,()))))))) (Y (.inr (.inr (.inr (.inr (bp,()))))))) λd=>match d with
 |.inl (f,_)=>((ar b a).bind λn=>(ba f.length n).bind λh=>(a1 f h λ_=>Y (f.set h bq)).bind λr=>Y (.inl (r,())))
 |.inr e=>Y e) λd=>match d with
 |.inl (l,_)=>(Y (.inl (bL.wrap (a+(1:Z)),l,())))
 |.inr e=>Y e) else Y (.inr (.inl ()))) ((0:Z),bI k bp,())).bind λd=>match d with
 |.inl _=>(Y (bq,()))
 |.inr e=>Y e))
def tc:dC->bv dJ:=λ(a,b,_)=>(xO (a,())).bind λ(c,_)=>(bw (c !=(0:Z)) (Y (([],()),c,())) (bw (((b.length:X):Z)!=(((a.1).length:X):Z)) (Y (([],()),(2:Z),())) ((DY (b,(((a.1).length:X):Z),())).bind λ(aS,_)=>bw (!aS) (Y (([],()),(90:Z),())) ((En (a,b,())).bind λ(d,e,_)=>Y (d,e,())))))
section
open Go
def BX (c:aj6->eo) (a:aj6):bv bA:=bif b2 a.length 1000000 then(c a).bind λb=>bif b2 b.length 1000000 then Y (br ((akY b).length<a.length)) else bo else bo
end
def Db:dJ->aj3:=λ(b,a,_)=>(bw (br (a>=(0:Z))==bq) (Y (br (a<(((b.1).length:X):Z)),())) (Y (bp,())))
def xB:ei->aj4:=λ(a,_)=>bB (α:=eg) (bw (br (a>=(65536:Z))) ((eN cb a (16:Z)).bind λg=>Y (g,(16:Z),())) (Y (a,(0:Z),()))) λ(b,c,_)=>bB (α:=eg) (bw (br (b>=(256:Z))) ((eN cb b (8:Z)).bind λh=>Y (h,bL.wrap (c+(8:Z)),())) (Y (b,c,()))) λ(f,e,_)=>(q0 Fj (an3.wrap f)).bind λd=>Y (bL.wrap (e+bL.wrap d),())
def Nw:ei->aj4:=λ(a,_)=>bB (α:=eg) (bw (br (a>=(4294967296:Z))) ((eN bD a (32:Z)).bind λi=>Y (i,(32:Z),())) (Y (a,(0:Z),()))) λ(b,d,_)=>bB (α:=eg) (bw (br (b>=(65536:Z))) ((eN bD b (16:Z)).bind λj=>Y (j,bL.wrap (d+(16:Z)),())) (Y (b,d,()))) λ(c,e,_)=>bB (α:=eg) (bw (br (c>=(256:Z))) ((eN bD c (8:Z)).bind λk=>Y (k,bL.wrap (e+(8:Z)),())) (Y (c,e,()))) λ(h,g,_)=>(q0 Fj (an3.wrap h)).bind λf=>Y (bL.wrap (g+bL.wrap f),())
def DA:ei->aj4:=λ(b,_)=>(Nw (b,())).bind λ(a,_)=>Y (a,())
def DR:(aj6×Z×Z×bt)->bv ee:=λ(k,f,j,_)=>(loop (σ:=dX) (ρ:=ee) (λ(d,g,_)=>bif br (d<j) then(loop (σ:=dX) (ρ:=ee) (λ(a,c,_)=>bB (α:=ee⊕dF) (bw (br (a>f)==bq) ((ba c.length a).bind λu=>(a1 c u λq=>Y q).bind λy=>(ba c.length (bL.wrap (a-(1:Z)))).bind λr=>(a1 c r λn=>Y n).bind λz=>(u2 (y,z,())).bind λ(x,_)=>bw x (Y (.inl (c,()))) (Y (.inr (.inr (c,()))))) (Y (.inr (.inr (c,()))))) λv=>match v with
 |.inl (b,_)=>((ba b.length (bL.wrap (a-(1:Z)))).bind λs=>(a1 b s λo=>Y o).bind λA=>(ba b.length a).bind λt=>(a1 b t λp=>Y p).bind λB=>(ba b.length a).bind λh=>(a1 b h λ_=>Y (b.set h A)).bind λe=>(ba e.length (bL.wrap (a-(1:Z)))).bind λi=>(a1 e i λ_=>Y (e.set i B)).bind λC=>Y (.inl (bL.wrap (a-(1:Z)),C,())))
 |.inr w=>Y w) (d,g,())).bind λ(l,_)=>Y (.inl (bL.wrap (d+(1:Z)),l,())) else Y (.inr (g,()))) (bL.wrap (f+(1:Z)),k,())).bind λ(m,_)=>Y (m,())
def DU:(aj6×Z×Z×Z×bt)->bv ee:=λ(e,c,d,g,_)=>(loop (σ:=(Z×Z×Z×bA×bA×aj6×bt)) (ρ:=ee) (λ(a,b,_,_,_,f,_)=>bw (br (bL.wrap (b-a)<=(12:Z))) ((DR (f,a,b,())).bind λ(h,_)=>Y (.inr (h,()))) bo) (c,d,g,bq,bq,e,())).bind Y
def Ad:ee->bv ee:=λ(a,_)=>(DA (bD.wrap ((a.length:X):Z),())).bind λ(c,_)=>(DU (a,(0:Z),((a.length:X):Z),c,())).bind λ(b,_)=>Y (b,())
def Da:aj6×bt->aj3:=λa=>(BX (λc=>(Ad (c,())).map λd=>d.1) a.1).map λb=>(b,())
def HX:(Z×bv dR×bt)->aj3:=λ(b,a,_)=>a.bind λc=>(Db (c,b,())).bind λ(aS,_)=>Y ((!aS),())
def Ia:du->aj4:=λ(b,c,_)=>(loop (σ:=ei) (ρ:=eb) (λ(a,_)=>bw (br (a<((b.length:X):Z))) ((ar b a).bind λg=>(HX (g,c.1,())).bind λ(f,_)=>bw f (Y (.inr (.inr (a,())))) (Y (.inl (bL.wrap (a+(1:Z)),())))) (Y (.inr (.inl ())))) ((0:Z),())).bind λd=>match d with
 |.inl _=>(Y ((-1:Z),()))
 |.inr e=>Y e
def DM:du->aj3:=λ(c,a,_)=>(Ia (c,(a.1,()),())).bind λ(b,_)=>Y (br (b>=(0:Z)),())
def C6:dC->aj4:=λ(a,b,_)=>(zQ (a,())).bind λ(c,_)=>(bw (c !=(0:Z)) (Y (c,())) (bw (((b.length:X):Z)!=(((a.1).length:X):Z)) (Y ((2:Z),())) ((DM (b,(Y a,()),())).bind λ(aS,_)=>bw (aS==bp) ((Da (b,())).bind λ(d,_)=>bw d (Y ((90:Z),())) (Y ((0:Z),()))) (Y ((90:Z),())))))
def zS:ei->bv dQ:=λ(a,_)=>(fR a a).bind λe=>(loop (σ:=dO) (ρ:=dQ) (λ(c,b,_)=>bw (br (c<((((bI e []):er).length:X):Z))) ((fR a a).bind λf=>(ba b.length c).bind λd=>(a1 b d λ_=>Y (b.set d (bI f bp))).bind λh=>Y (.inl (bL.wrap (c+(1:Z)),h,()))) (Y (.inr (b,())))) ((0:Z),bI e [],())).bind λ(g,_)=>Y (g,())
def zV:(er×Z×Z×bt)->bv dQ:=λ(a,d,e,_)=>(bw (d !=e) ((ba a.length d).bind λb=>(ba a.length e).bind λc=>((a1 a b λm=>Y m).bind λn=>ba n.length e).bind λi=>(a1 a b λg=>(a1 g i λ_=>Y (g.set i bq)).map λo=>a.set b o).bind λf=>((a1 f c λk=>Y k).bind λl=>ba l.length d).bind λj=>(a1 f c λh=>(a1 h j λ_=>Y (h.set j bq)).map λp=>f.set c p).bind λq=>Y (q,())) (Y (a,())))
def C7:(er×Z×bt)->bv ee:=λ(f,g,_)=>(ar f g).bind λc=>(loop (σ:=dX) (ρ:=ee) (λ(a,b,_)=>bw (br (a<((c.length:X):Z))) (bB (α:=ee) ((ar c a).bind λh=>bw h ((cI (b.length+([a]).length)).bind λ_=>Y ((b++[a]),())) (Y (b,()))) λ(d,_)=>Y (.inl (bL.wrap (a+(1:Z)),d,()))) (Y (.inr (b,())))) ((0:Z),[],())).bind λ(e,_)=>Y (e,())
def zU:dQ->bv dN:=λ(b,_)=>(fR ((b.length:X):Z) ((b.length:X):Z)).bind λg=>(loop (σ:=dr) (ρ:=dt) (λ(c,e,a,_)=>bw (br (c<((b.length:X):Z))) ((C7 (b,c,())).bind λ(h,_)=>(ba (a.1).length c).bind λd=>((a1 a.1 d λ_=>Y ((a.1).set d h)).map λi=>(i,a.2)).bind λj=>Y (.inl (bL.wrap (c+(1:Z)),e,j,()))) (Y (.inr (e,a,())))) ((0:Z),([],()),(bI g [],()),())).bind λ(_,f,_)=>Y (f,())
def C9:dC->bv dN:=λ(k,a,_)=>(zS (((a.length:X):Z),())).bind λ(o,_)=>(loop (σ:=dv) (ρ:=dw) (λ(b,i,j,_)=>bif br (b<((a.length:X):Z)) then(ar a b).bind λv=>((Y (0)).bind λg=>(g8 b).bind λh=>(hZ g h a.length).map λ_=>(g,h)).bind λc=>(loop (σ:=dv) (ρ:=dw) (λ(d,e,f,_)=>bif br (d<((((a.take c.2).drop c.1).length:X):Z)) then bB (α:=dw) ((ar ((a.take c.2).drop c.1) d).bind λu=>(xv (k,v,u,())).bind λ(m,_)=>bw m ((zV (f,b,d,())).bind λ(l,_)=>Y (e,l,())) (Y (e,f,()))) λ(p,q,_)=>
 Y (.inl (bL.wrap (d+(1:Z)),p,q,())) else Y (.inr (e,f,()))) ((0:Z),i,j,())).bind λ(r,s,_)=>Y (.inl (bL.wrap (b+(1:Z)),r,s,())) else Y (.inr (i,j,()))) ((0:Z),([],()),o,())).bind λ(_,t,_)=>(zU (t,())).bind λ(n,_)=>Y (n,())
def zT:dC->bv dJ:=λ(a,b,_)=>(C6 (a,b,())).bind λ(c,_)=>(bw (c !=(0:Z)) (Y (([],()),c,())) ((C9 (a,b,())).bind λ(aS,_)=>Y (aS,(0:Z),())))
def u1:eg->aj4:=λ(a,b,_)=>(s2 (a,())).bind λ(c,_)=>(s2 (b,())).bind λ(aS,_)=>(bw c (bw aS (Y ((0:Z),())) (Y ((-1:Z),()))) (bw aS (Y ((1:Z),())) (bw (br (a<b)) (Y ((-1:Z),())) (bw (br (a>b)) (Y ((1:Z),())) (Y ((0:Z),()))))))
def CV:ee->aj4:=λ(b,_)=>(loop (σ:=ei) (ρ:=eb) (λ(a,_)=>bw (br (a<((b.length:X):Z))) ((ar b a).bind λc=>bw (c !=(0:Z)) (Y (.inr (.inr (c,())))) (Y (.inl (bL.wrap (a+(1:Z)),())))) (Y (.inr (.inl ())))) ((0:Z),())).bind λd=>match d with
 |.inl _=>(Y ((0:Z),()))
 |.inr e=>Y e
abbrev bf:Type:=aj6
abbrev ht:Type:=(bf×bt)
abbrev eY:Type:=(bA×ht)
abbrev cM:Type:=ei
abbrev fa:Type:=(bA×(eY×cM))
abbrev Hg:Type:=(bf×(bf×ht))
abbrev zp:Type:=(bm fa)
abbrev UV:Type:=(Z×(Z×(zp×bt)))
abbrev k3:Type:=(bm (Z×(Z×cM)))
abbrev da:Type:=(Z×(Z×Hg))
abbrev hq:Type:=eh
abbrev rr:Type:=(Z×((bm bf×bt)×(bm (bv (bm (Z×fa)×X))×bt)))
abbrev jv:Type:=(bm (Z×(Z×(bf×cM))))
abbrev gJ:Type:=(fa×bt)
abbrev gN:Type:=(eY×bt)
abbrev nb:Type:=(fa×fa×bt)
abbrev i5:Type:=(Z×bf×bt)
abbrev gy:Type:=aj2
abbrev nc:Type:=(bt⊕hq)
abbrev jV:Type:=(k3×bt)
abbrev UU:Type:=(k3×Z×Z×Z×bt×bt)
abbrev oz:Type:=(Z×k3×bt)
abbrev kn:Type:=(bf×bf×bt)
abbrev l8:Type:=(eY×eY×bt)
abbrev oA:Type:=(bt⊕cM)
abbrev nK:Type:=(bf×Z×bt)
abbrev nf:Type:=eg
abbrev ko:Type:=(jv×bm gy×bt)
abbrev zq:Type:=(Z×Z×k3×bt)
abbrev w9:Type:=(bA×(eY×(Z×hq)))
abbrev qh:Type:=(Z×Z×bf×bt)
abbrev qi:Type:=(eY×Z×bt)
abbrev ng:Type:=(da×bt)
def mI:ht->bv ht:=λ(c,_)=>(loop (σ:=cM) (ρ:=cM) (λ(a,_)=>bB (α:=bt⊕(cM⊕cM)) (bw (br (a>0)==bq) ((ar c (ax (a-1))).bind λj=>bw (j==0) (Y (.inl ())) (Y (.inr (.inr (a,()))))) (Y (.inr (.inr (a,()))))) λh=>match h with
 |.inl _=>(Y (.inl (ax (a-1),())))
 |.inr i=>Y i) (al c,())).bind λ(f,_)=>(loop (σ:=i5) (ρ:=ht) (λ(b,d,_)=>bw (br (b<f)) ((ar c b).bind λe=>(cI (d.length+([e]).length)).bind λ_=>Y (.inl (aM b,(d++[e]),()))) (Y (.inr (d,())))) (0,[],())).bind λ(g,_)=>Y (g,())
def me:(bA×bf×bt)->bv gN:=λ(c,b,_)=>(mI (b,())).bind λ(a,_)=>(bw (c==bq) (Y ((br (al a>0),(a,())),())) (Y ((bp,(a,())),())))
def rE:cM->bv gN:=λ(a,_)=>bB (α:=(Z×eY×bt)) (bw (br (a<0)) (Y (aK (aK (ax (0-aM a))+1),(bp,([],())),())) (Y (aK a,(bp,([],())),()))) λ(b,_,_)=>(eN bD b 32).bind λd=>(me (br (a<0),[eC b,eC d],())).bind λ(c,_)=>Y (c,())
def pk:gN->bv gN:=λ(a,_)=>(me (a.1,a.2.1,())).bind λ(b,_)=>Y (b,())
def rG:bt->bv gJ:=λ_=>Y ((bq,((bp,([],())),((0:Z),()))),())
def xC:cM->bv cM:=λ(a,_)=>(bw (a==0) (Y (32,())) ((eN cb (eC (e0 cb a (eC (0-a))*125613361)) 27).bind λb=>(ar qo b).bind λc=>Y (ax c,())))
def rF:gN->bv cM:=λ(c,_)=>(mI (c.2.1,())).bind λ(b,_)=>(loop (σ:=cM) (ρ:=oA) (λ(a,_)=>bw (br (a<al b)) ((ar b a).bind λg=>bw (g !=0) ((ar b a).bind λh=>(xC (h,())).bind λ(f,_)=>Y (.inr (.inr (ax (ax (32*a)+f),())))) (Y (.inl (aM a,())))) (Y (.inr (.inl ())))) (0,())).bind λd=>match d with
 |.inl _=>(Y (0,()))
 |.inr e=>Y e
def rD:gN->bv gN:=λ(a,_)=>(me (bp,a.2.1,())).bind λ(b,_)=>Y (b,())
def xJ:nK->bv ht:=λ(f,g,_)=>(kA bL g 32).bind λi=>(fR i i).bind λj=>(loop (σ:=qh) (ρ:=i5) (λ(a,b,c,_)=>bw (br (b<al f)) ((ar f b).bind λl=>(jf g 32).bind λm=>(ig bD (aK l) m).bind λd=>(cI (c.length+([eC (gv bD a d)]).length)).bind λ_=>(eN bD (gv bD a d) 32).bind λk=>Y (.inl (k,aM b,(c++[eC (gv bD a d)]),()))) (Y (.inr (a,c,())))) (0,0,bI j (0:Z),())).bind λ(e,h,_)=>(cI (h.length+([eC e]).length)).bind λ_=>Y ((h++[eC e]),())
def xK:nK->bv (bf×bA×bt):=λ(b,d,_)=>(loop (σ:=ef) (ρ:=hq) (λ(e,c,_)=>bB (α:=bt⊕(ef⊕hq)) ((kA bL d 32).bind λw=>bw (br (c<w)==bq) (bw (br (c<al b)) (Y (.inl ())) (Y (.inr (.inr (e,()))))) (Y (.inr (.inr (e,()))))) λt=>match t with
 |.inl _=>(bB (α:=hq) (bw (e==bp) ((ar b c).bind λx=>Y ((x !=0),())) (Y (bq,()))) λ(m,_)=>Y (.inl (m,aM c,())))
 |.inr u=>Y u) (bp,0,())).bind λ(n,_)=>(jf d 32).bind λj=>(kA bL d 32).bind λy=>(loop (σ:=(bA×Z×bf×bt)) (ρ:=(bA×bf×bt)) (λ(f,a,g,_)=>bif br (a<al b) then bB (α:=(bA×bf×bt)) ((ar b a).bind λk=>bB (α:=i5) (bw (br (aM a<al b)) ((ar b (aM a)).bind λz=>(ig bD (aK z) 32).bind λA=>Y (gv bD (aK k) A,g,())) (Y (aK k,g,()))) λ(v,h,_)=>bB (α:=(bA×bf×bt)) ((kA bL d 32).bind λB=>bw ((a==B)==bq) ((ar b a).bind λC=>(ig cb 1 j).bind λD=>bw (e0 cb C (eC (D-1))!=0) (Y (bq,h,())) (Y (f,h,()))) (Y (f,h,()))) λ(o,i,_)=>(eN bD v j).bind λl=>(cI (i.length+([eC l]).length)).bind λ_=>Y (o,(i++[eC l]),())) λ(p,r,_)=>Y (.inl (p,aM a,r,())) else
 Y (.inr (f,g,()))) (n,y,[],())).bind λ(q,s,_)=>Y (s,q,())
def xH:gN->bv gN:=λ(a,_)=>(me ((!a.1),a.2.1,())).bind λ(b,_)=>Y (b,())
def D2:kn->bv ht:=λ(b,c,_)=>(loop (σ:=qh) (ρ:=i5) (λ(e,a,f,_)=>bw (br (a<(if(al c)>al b then al c else al b))) (bB (α:=i5) (bB (α:=i5) (bw (br (a<al b)) ((ar b a).bind λo=>Y (aK (e+aK o),f,())) (Y (e,f,()))) λ(h,k,_)=>bB (α:=i5) (bw (br (a<al c)) ((ar c a).bind λp=>Y (aK (h+aK p),k,())) (Y (h,k,()))) λ(d,i,_)=>(cI (i.length+([eC d]).length)).bind λ_=>(eN bD d 32).bind λn=>Y (n,(i++[eC d]),())) λ(l,m,_)=>Y (.inl (l,aM a,m,()))) (Y (.inr (e,f,())))) (0,0,[],())).bind λ(g,j,_)=>(cI (j.length+([eC g]).length)).bind λ_=>Y ((j++[eC g]),())
def Am:kn->bv cM:=λ(b,c,_)=>(bif al b !=al c then bw (br (al b<al c)) (Y ((-1:Z),())) (Y (1,())) else((loop (σ:=cM) (ρ:=oA) (λ(a,_)=>bw (br (a>=0)) ((ar b a).bind λf=>(ar c a).bind λg=>bw (f !=g) ((ar b a).bind λh=>(ar c a).bind λi=>bw (br (h<i)) (Y (.inr (.inr ((-1:Z),())))) (Y (.inr (.inr (1,()))))) (Y (.inl (ax (a-1),())))) (Y (.inr (.inl ())))) (ax (al b-1),())).bind λd=>match d with
 |.inl _=>(Y (0,()))
 |.inr e=>Y e))
def An:kn->bv ht:=λ(d,e,_)=>(loop (σ:=qh) (ρ:=ht) (λ(f,a,b,_)=>bw (br (a<al d)) (bB (α:=i5) ((ar d a).bind λh=>bB (α:=i5) (bw (br (a<al e)) ((ar e a).bind λm=>Y (aK (aK (aK h-f)-aK m),b,())) (Y (aK (aK h-f),b,()))) λ(c,g,_)=>(cI (g.length+([eC c]).length)).bind λ_=>(eN bD c 63).bind λl=>Y (l,(g++[eC c]),())) λ(i,j,_)=>Y (.inl (i,aM a,j,()))) (Y (.inr (b,())))) (0,0,[],())).bind λ(k,_)=>Y (k,())
def qv:l8->bv gN:=λ(a,c,_)=>(mI (a.2.1,())).bind λ(b,_)=>(mI (c.2.1,())).bind λ(aS,_)=>(bw (a.1==c.1) ((D2 (b,aS,())).bind λ(f,_)=>(me (a.1,f,())).bind λ(g,_)=>Y (g,())) ((Am (b,aS,())).bind λ(h,_)=>bw (br (h>=0)) ((An (b,aS,())).bind λ(i,_)=>(me (a.1,i,())).bind λ(j,_)=>Y (j,())) ((An (aS,b,())).bind λ(d,_)=>(me (c.1,d,())).bind λ(e,_)=>Y (e,()))))
def xI:l8->bv gN:=λ(a,b,_)=>(xH (b,())).bind λ(c,_)=>(qv (a,c,())).bind λ(aS,_)=>Y (aS,())
def ni:qi->bv gN:=λ(f,b,_)=>(pk (f,())).bind λ(a,_)=>(bw (br (b>=0)) ((xJ (a.2.1,b,())).bind λ(aS,_)=>(me (a.1,aS,())).bind λ(j,_)=>Y (j,())) ((xK (a.2.1,ax (0-b),())).bind λ(k,l,_)=>(me (a.1,k,())).bind λ(d,_)=>bB (α:=l8) (bB (α:=(bA×eY×eY×bt)) (bw (a.1==bq) (Y (l,(bp,([],())),d,())) (Y (bp,(bp,([],())),d,()))) λ(m,e,c,_)=>bw m ((rE (1,())).bind λ(h,_)=>(xI (c,h,())).bind λ(i,_)=>Y (e,i,())) (Y (e,c,()))) λ(_,g,_)=>Y (g,())))
def xN:qi->bv gN:=λ(d,f,_)=>(loop (σ:=(Z×eY×eY×bt)) (ρ:=(Z×eY×eY×bt)) (λ(a,b,c,_)=>bw (br (a>1048576)) ((ni (b,(-1048576:Z),())).bind λ(i,_)=>Y (.inl (ax (a-1048576),i,c,()))) (Y (.inr (a,b,c,())))) (f,d,(bp,([],())),())).bind λ(g,e,_,_)=>(ni (e,ax (0-g),())).bind λ(h,_)=>Y (h,())
def Aj:gN->bv cM:=λ(b,_)=>(mI (b.2.1,())).bind λ(a,_)=>(bw (al a==0) (Y (0,())) ((ar a (ax (al a-1))).bind λc=>(xB (c,())).bind λ(aS,_)=>Y (ax (ax (32*ax (al a-1))+aS),())))
def nR:qi->bv gJ:=λ(e,a,_)=>(pk (e,())).bind λ(c,_)=>(bif al c.2.1==0 then Y ((bp,((bp,([],())),((0:Z),()))),()) else bif br (a>65536) then(rG ()).bind λ(aS,_)=>Y (aS,()) else((rF (c,())).bind λ(b,_)=>(rD (c,())).bind λ(k,_)=>(xN (k,b,())).bind λ(d,_)=>bB (α:=(fa×eY×bt)⊕gJ) (bB (α:=(bA×fa×eY×bt)) (bw (br (ax (a+b)<(-65536:Z))==bp) ((Aj (d,())).bind λ(l,_)=>Y (br (ax (ax (a+b)+l)>65536),(bp,((bp,([],())),((0:Z),()))),d,())) (Y (bq,(bp,((bp,([],())),((0:Z),()))),d,()))) λ(n,m,f,_)=>bw n ((rG ()).bind λ(j,_)=>Y (.inr (j,()))) (Y (.inl (m,f,())))) λh=>match h with
 |.inl (_,g,_)=>(Y ((bp,((e.1,g.2),(ax (a+b),()))),()))
 |.inr i=>Y i))
def xL:cM->bv gJ:=λ(a,_)=>(rE (a,())).bind λ(b,_)=>(nR (b,0,())).bind λ(c,_)=>Y (c,())
def mJ:gJ->bv gJ:=λ(a,_)=>(bw a.1 ((rG ()).bind λ(b,_)=>Y (b,())) ((nR (a.2.1,a.2.2.1,())).bind λ(c,_)=>Y (c,())))
def k5:gN->bv cM:=λ(b,_)=>(pk (b,())).bind λ(a,_)=>(bw (al a.2.1==0) (Y (0,())) (bw a.1 (Y ((-1:Z),())) (Y (1,()))))
def rH:ef->bv cM:=λ(b,a,_)=>(bw b (Y (gv bD a 9223372036854775808,())) (Y (a,())))
def As:ef->bv cM:=λ(a,b,_)=>bB (α:=bt⊕cM) (bB (α:=hq) (bw ((b==3)==bp) (bw ((b==1)==bq) (bw ((!a)==bp) (bw ((b==2)==bq) (Y (a,())) (Y (bp,()))) (Y (bq,()))) (bw ((b==2)==bq) (Y (a,())) (Y (bp,())))) (Y (bq,()))) λ(f,_)=>bw f ((rH (a,9218868437227405311,())).bind λ(aS,_)=>Y (.inr (aS,()))) (Y (.inl ()))) λc=>match c with
 |.inl _=>((rH (a,9218868437227405312,())).bind λ(e,_)=>Y (e,()))
 |.inr d=>Y d
def Ak:qi->bv hq:=λ(a,b,_)=>(mI (a.2.1,())).bind λ(c,_)=>(xK (c,b,())).bind λ(_,d,_)=>Y (d,())
def Ec:(bA×Z×bA×Z×bt)->bv hq:=λ(c,b,d,a,_)=>(bw (a==1) (Y (c,())) (bw (a==2) (Y ((!c),())) (bw (a==3) (Y (bp,())) (bw (br (b>0)==bp) (bw ((b==0)==bq) (Y (d,())) (Y (bp,()))) (Y (bq,()))))))
def D7:(bA×eY×Z×bA×Z×bt)->bv gN:=λ(q,b,a,h,p,_)=>(xN (b,a,())).bind λ(l,_)=>(Ak (b,a,())).bind λ(D,_)=>bB (α:=l8⊕gN) (bB (α:=(bA×eY×eY×bt)) (bw ((!D)==bq) (Y ((!h),(bp,([],())),l,())) (Y (bp,(bp,([],())),l,()))) λ(F,G,i,_)=>bw F (Y (.inr (i,()))) (Y (.inl (G,i,())))) λs=>match s with
 |.inl (g,f,_)=>(bB (α:=(Z×eY×eY×bt)) (bw (br (a>0)) ((xN (b,ax (a-1),())).bind λ(k,_)=>bB (α:=(bA×eY×eY×bt)) ((rF (k,())).bind λ(v,_)=>bw ((v==0)==bq) ((k5 (k,())).bind λ(w,_)=>Y ((w !=0),g,f,())) (Y (bp,g,f,()))) λ(E,e,c,_)=>bw E (bw (h==bp) ((Ak (b,ax (a-1),())).bind λ(x,_)=>bw x (Y (1,e,c,())) (Y (0,e,c,()))) (Y (1,e,c,()))) (Y ((-1:Z),e,c,()))) (Y ((-1:Z),g,f,()))) λ(o,m,d,_)=>bB (α:=(bA×eY×eY×bt)) ((k5 (d,())).bind λ(y,_)=>bw ((y !=0)==bq) ((rF (d,())).bind λ(z,_)=>Y ((z==0),m,d,())) (Y (bp,m,d,()))) λ(r,n,j,_)=>bB (α:=l8) ((Ec (q,o,r,p,())).bind λ(A,_)=>
  bw A ((rE (1,())).bind λ(B,_)=>(qv (j,B,())).bind λ(C,_)=>Y (n,C,())) (Y (n,j,()))) λ(_,t,_)=>Y (t,()))
 |.inr u=>Y u
def D1:gN->bv ed:=λ(f,_)=>(pk (f,())).bind λ(d,_)=>(bw (br (al d.2.1>2)) (Y (0,bp,())) ((loop (σ:=(Z×Z×eY×bt)) (ρ:=(Z×eY×bt)) (λ(e,b,a,_)=>bw (br (b<al a.2.1)) ((ar a.2.1 b).bind λh=>(ig bD (aK h) (ax (32*b))).bind λi=>Y (.inl (gv bD e i,aM b,a,()))) (Y (.inr (e,a,())))) (0,0,d,())).bind λ(c,g,_)=>bw g.1 (bw (br (c>9223372036854775808)) (Y (0,bp,())) (Y (ax (ax (0-ax (aK (c-1)))-1),bq,()))) (bw (br (c>9223372036854775807)) (Y (0,bp,())) (Y (ax c,bq,())))))
def Ef:(bA×eY×Z×bA×Z×bt)->bv cM:=λ(c,e,a,i,f,_)=>(Aj (e,())).bind λ(b,_)=>(bif br (ax (ax (a+b)-1)>=1024) then(As (c,f,())).bind λ(p,_)=>Y (p,()) else(bB (α:=gN) (bw (br ((if(-1074:Z)>ax (ax (ax (a+b)-1)-52) then(-1074:Z) else ax (ax (ax (a+b)-1)-52))>=a)) ((D7 (c,e,ax ((if(-1074:Z)>ax (ax (ax (a+b)-1)-52) then(-1074:Z) else ax (ax (ax (a+b)-1)-52))-a),i,f,())).bind λ(q,_)=>Y (q,())) ((ni (e,ax (a-(if(-1074:Z)>ax (ax (ax (a+b)-1)-52) then(-1074:Z) else ax (ax (ax (a+b)-1)-52))),())).bind λ(r,_)=>Y (r,()))) λ(j,_)=>(D1 (j,())).bind λ(g,_,_)=>bB (α:=nf) (bif g==9007199254740992 then Y (aM (if(-1074:Z)>ax (ax (ax (a+b)-1)-52) then(-1074:Z) else ax (ax (ax (a+b)-1)-52)),4503599627370496,()) else
 Y ((if(-1074:Z)>ax (ax (ax (a+b)-1)-52) then(-1074:Z) else ax (ax (ax (a+b)-1)-52)),g,())) λ(h,d,_)=>bB (α:=bt⊕cM) (bB (α:=hq) (bw (br (d>=4503599627370496)==bq) (Y (br (ax (h+53)>1024),())) (Y (bp,()))) λ(s,_)=>bw s ((As (c,f,())).bind λ(m,_)=>Y (.inr (m,()))) (bw (br (d>=4503599627370496)) ((ig bD (aK (ax (h+1075))) 52).bind λt=>(rH (c,gv bD t (aK (ax (d-4503599627370496))),())).bind λ(n,_)=>Y (.inr (n,()))) (Y (.inl ())))) λk=>match k with
 |.inl _=>((rH (c,aK d,())).bind λ(o,_)=>Y (o,()))
 |.inr l=>Y l))
def Ar:(fa×Z×bt)->bv cM:=λ(b,c,_)=>(mJ (b,())).bind λ(a,_)=>(bw a.1 (Y (9221120237041090560,())) ((k5 (a.2.1,())).bind λ(aS,_)=>bw (aS==0) (Y (0,())) ((rD (a.2.1,())).bind λ(d,_)=>(Ef (a.2.1.1,d,a.2.2.1,bp,c,())).bind λ(e,_)=>Y (e,()))))
def Ed:nf->bv cM:=λ(b,a,_)=>(xL (b,())).bind λ(c,_)=>(Ar (c,a,())).bind λ(aS,_)=>Y (aS,())
def xu:cM->bv nf:=λ(a,_)=>(eN bD a 52).bind λb=>Y (ax (e0 bD b 2047),e0 bD a 4503599627370495,())
def ph:cM->bv hq:=λ(a,_)=>(xu (a,())).bind λ(b,_,_)=>Y ((b !=2047),())
def iP:ht->bv ht:=λ(b,_)=>(loop (σ:=cM) (ρ:=cM) (λ(a,_)=>bB (α:=bt⊕(cM⊕cM)) (bw (br (a>0)==bq) ((ar b (ax (a-1))).bind λi=>bw (i==0) (Y (.inl ())) (Y (.inr (.inr (a,()))))) (Y (.inr (.inr (a,()))))) λg=>match g with
 |.inl _=>(Y (.inl (ax (a-1),())))
 |.inr h=>Y h) (al b,())).bind λ(f,_)=>((Y (0)).bind λc=>(g8 f).bind λd=>(hZ c d b.length).map λ_=>(c,d)).bind λe=>Y (((b.take e.2).drop e.1),())
def md:(bA×bf×bt)->bv gN:=λ(c,b,_)=>(iP (b,())).bind λ(a,_)=>(bw (al a==0) (Y ((bp,(([]:bf),())),())) (Y ((c,(a,())),())))
def u7:cM->bv gN:=λ(a,_)=>bB (α:=(Z×eY×bt)) (bw (br (a<0)) (Y (aK (0-aK a),(bp,([],())),())) (Y (aK a,(bp,([],())),()))) λ(b,_,_)=>(eN bD b 32).bind λd=>(md (br (a<0),[eC (e0 bD b 4294967295),eC d],())).bind λ(c,_)=>Y (c,())
def C4:cM->bv hq:=λ(a,_)=>Y ((e0 bD a 9223372036854775808 !=0),())
def ve:ht->bv ht:=λ(a,_)=>r1 a.length (Y ([],())) ((cI (([]:bf).length+a.length)).bind λ_=>Y (([]++a),()))
def s5:gN->bv gN:=λ(a,_)=>(ve (a.2.1,())).bind λ(b,_)=>(md ((!a.1),b,())).bind λ(c,_)=>Y (c,())
def zN:bt->bv gJ:=λ_=>Y ((bq,((bp,([],())),((0:Z),()))),())
def Df:gN->bv gN:=λ(a,_)=>(ve (a.2.1,())).bind λ(b,_)=>(md (a.1,b,())).bind λ(c,_)=>Y (c,())
def qs:gN->bv cM:=λ(a,_)=>(iP (a.2.1,())).bind λ(b,_)=>(bw (al b==0) (Y (0,())) (bw a.1 (Y ((-1:Z),())) (Y (1,()))))
def zX:gN->bv cM:=λ(b,_)=>(loop (σ:=cM) (ρ:=oA) (λ(a,_)=>bw (br (a<al b.2.1)) ((ar b.2.1 a).bind λc=>bw (c !=0) ((xC (c,())).bind λ(aS,_)=>Y (.inr (.inr (ax (ax (a*32)+aS),())))) (Y (.inl (aM a,())))) (Y (.inr (.inl ())))) (0,())).bind λd=>match d with
 |.inl _=>(Y (0,()))
 |.inr e=>Y e
def z1:ht->bv cM:=λ(a,_)=>(bw (al a==0) (Y (0,())) ((ar a (ax (al a-1))).bind λc=>(xB (c,())).bind λ(b,_)=>Y (ax (ax (ax (al a-1)*32)+b),())))
def s4:gN->bv cM:=λ(a,_)=>(iP (a.2.1,())).bind λ(b,_)=>(z1 (b,())).bind λ(c,_)=>Y (c,())
def xz:nK->bv ht:=λ(b,e,_)=>(bw (al b==0) (Y ([],())) ((kA bL e 32).bind λc=>(jf e 32).bind λj=>(fR (aM (ax (c+al b))) (aM (ax (c+al b)))).bind λg=>(loop (σ:=i5) (ρ:=ht) (λ(a,d,_)=>bw (br (a<al b)) ((ar b a).bind λk=>(ig bD (aK k) (aK j)).bind λf=>rd d (ax (c+a)) λl=>wr d (ax (c+a)) (gv cb l (eC (e0 bD f 4294967295))) λn=>(eN bD f 32).bind λm=>wr n (aM (ax (c+a))) (eC m) λo=>Y (.inl (aM a,o,()))) (Y (.inr (d,())))) (0,bI g (0:Z),())).bind λ(h,_)=>(iP (h,())).bind λ(i,_)=>Y (i,())))
def HY:cM->bv hq:=λ(a,_)=>Y ((a !=0),())
def Ib:(bf×bt×bt)->bv cM:=λ(b,_,_)=>(loop (σ:=cM) (ρ:=oA) (λ(a,_)=>bw (br (a<al b)) ((ar b a).bind λf=>(HY (f,())).bind λ(e,_)=>bw e (Y (.inr (.inr (a,())))) (Y (.inl (aM a,())))) (Y (.inr (.inl ())))) (0,())).bind λc=>match c with
 |.inl _=>(Y ((-1:Z),()))
 |.inr d=>Y d
def Ab:(bf×bt×bt)->bv hq:=λ(b,_,_)=>(Ib (b,(),())).bind λ(a,_)=>Y (br (a>=0),())
def zZ:nK->bv (bf×bA×bt):=λ(a,h,_)=>(kA bL h 32).bind λb=>(jf h 32).bind λj=>(bif br (b>=al a) then Y ([],br (al a>0),()) else bB (α:=hq) (((Y (0)).bind λe=>(g8 b).bind λf=>(hZ e f a.length).map λ_=>(e,f)).bind λi=>(Ab (((a.take i.2).drop i.1),(),())).bind λ(p,_)=>bw (p==bp) ((ar a b).bind λs=>(ig cb 1 (aK j)).bind λt=>Y ((e0 cb s (eC (t-1))!=0),())) (Y (bq,()))) λ(l,_)=>(fR (ax (al a-b)) (ax (al a-b))).bind λg=>(loop (σ:=i5) (ρ:=ht) (λ(c,d,_)=>bif br (c<al (bI g (0:Z))) then bB (α:=ht) ((ar a (ax (b+c))).bind λk=>bB (α:=i5) (bw (br (aM (ax (b+c))<al a)) ((ar a (aM (ax (b+c)))).bind λu=>(ig bD (aK u) 32).bind λv=>Y (gv bD (aK k) v,d,())) (Y (aK k,d,()))) λ(r,m,_)=>
 (eN bD r (aK j)).bind λw=>wr m c (eC (e0 bD w 4294967295)) λx=>Y (x,())) λ(n,_)=>Y (.inl (aM c,n,())) else Y (.inr (d,()))) (0,bI g (0:Z),())).bind λ(o,_)=>(iP (o,())).bind λ(q,_)=>Y (q,l,()))
def xy:kn->bv ht:=λ(b,d,_)=>bB (α:=kn) (bw (br (al b<al d)) (Y (d,b,())) (Y (b,d,()))) λ(c,h,_)=>(fR 0 (aM (al c))).bind λn=>(loop (σ:=qh) (ρ:=i5) (λ(e,a,f,_)=>bw (br (a<al c)) (bB (α:=i5) ((ar c a).bind λl=>bB (α:=i5) (bw (br (a<al h)) ((ar h a).bind λq=>Y (aK (aK (aK l+e)+aK q),f,())) (Y (aK (aK l+e),f,()))) λ(g,j,_)=>(cI (j.length+([eC (e0 bD g 4294967295)]).length)).bind λ_=>(eN bD g 32).bind λr=>Y (r,(j++[eC (e0 bD g 4294967295)]),())) λ(m,o,_)=>Y (.inl (m,aM a,o,()))) (Y (.inr (e,f,())))) (0,0,bI n (0:Z),())).bind λ(i,k,_)=>(cI (k.length+([eC i]).length)).bind λ_=>(iP ((k++[eC i]),())).bind λ(p,_)=>Y (p,())
def rC:qi->bv qi:=λ(b,a,_)=>bB (α:=gN⊕qi) (bB (α:=(bA×eY×bt)) (bw (br (a<(-1048576:Z))==bp) (Y (br (a>1048576),(bp,([],())),())) (Y (bq,(bp,([],())),()))) λ(p,q,_)=>bw p (Y (.inr ((bp,(([]:bf),())),3,()))) (Y (.inl (q,())))) λh=>match h with
 |.inl (f,_)=>((iP (b.2.1,())).bind λ(c,_)=>bw (br (a>=0)) ((xz (c,a,())).bind λ(m,_)=>(md (b.1,m,())).bind λ(n,_)=>Y (n,0,())) ((zZ (c,ax (0-a),())).bind λ(d,j,_)=>bB (α:=(bf×eY×bt)) (bB (α:=(bA×eY×bt)) (bw (b.1==bq) (Y (j,f,())) (Y (bp,f,()))) λ(o,e,_)=>bw o ((xy (d,[1],())).bind λ(k,_)=>Y (k,e,())) (Y (d,e,()))) λ(g,_,_)=>(md (b.1,g,())).bind λ(l,_)=>Y (l,0,())))
 |.inr i=>Y i
def zO:qi->bv gN:=λ(d,f,_)=>(loop (σ:=(Z×eY×eY×bt)) (ρ:=(Z×eY×eY×bt)) (λ(a,b,c,_)=>bw (br (a>1048576)) ((rC (b,(-1048576:Z),())).bind λ(i,_,_)=>Y (.inl (ax (a-1048576),i,c,()))) (Y (.inr (a,b,c,())))) (f,d,(bp,([],())),())).bind λ(g,e,_,_)=>(rC (e,ax (0-g),())).bind λ(h,_,_)=>Y (h,())
def qr:gJ->bv (fa×bA×bt):=λ(a,_)=>(bif a.1 then(zN ()).bind λ(j,_)=>Y (j,bp,()) else(Df (a.2.1,())).bind λ(b,_)=>(qs (b,())).bind λ(aS,_)=>bif aS==0 then Y ((bp,((bp,([],())),((0:Z),()))),bq,()) else((zX (b,())).bind λ(c,_)=>bB (α:=(fa×eY×bt)⊕(fa×bA×bt)) (bB (α:=(bA×fa×eY×bt)) ((s4 (b,())).bind λ(k,_)=>bw (br (a.2.2.1>ax (65536-k))==bp) (Y (br (a.2.2.1<ax ((-65536:Z)-c)),(bp,((bp,([],())),((0:Z),()))),b,())) (Y (bq,(bp,((bp,([],())),((0:Z),()))),b,()))) λ(l,m,e,_)=>bw l ((zN ()).bind λ(h,_)=>Y (.inr (h,bp,()))) (Y (.inl (m,e,())))) λf=>match f with
 |.inl (_,d,_)=>((zO (d,c,())).bind λ(i,_)=>Y ((bp,(i,(ax (a.2.2.1+c),()))),bq,()))
 |.inr g=>Y g))
def u3:qi->bv gJ:=λ(b,a,_)=>(qr ((bp,(b,(a,()))),())).bind λ(c,_,_)=>Y (c,())
def k4:cM->bv gJ:=λ(b,_)=>(xu (b,())).bind λ(a,c,_)=>bB (α:=(Z×Z×fa×bt)⊕gJ) (bw (a==2047) (Y (.inr ((bq,((bp,([],())),((0:Z),()))),()))) (bw (a==0) (Y (.inl ((-1074:Z),c,(bp,((bp,([],())),((0:Z),()))),()))) (Y (.inl (ax (a-1075),gv bD c 4503599627370496,(bp,((bp,([],())),((0:Z),()))),()))))) λi=>match i with
 |.inl (f,g,e,_)=>((u7 (ax g,())).bind λ(d,_)=>bB (α:=(fa×eY×bt)) ((C4 (b,())).bind λ(l,_)=>bw l ((s5 (d,())).bind λ(m,_)=>Y (e,m,())) (Y (e,d,()))) λ(_,h,_)=>(u3 (h,f,())).bind λ(k,_)=>Y (k,()))
 |.inr j=>Y j
def xp:nb->bv (fa×fa×bA×bt):=λ(c,d,_)=>(qr (c,())).bind λ(a,aS,_)=>(qr (d,())).bind λ(b,e,_)=>(bw (aS==bq) (Y (a,b,e,())) (Y (a,b,bp,())))
def Dj:kn->bv ht:=λ(c,a,_)=>bB (α:=bt⊕ht) (bw ((al c==0)==bp) (bw (al a==0) (Y (.inr ([],()))) (Y (.inl ()))) (Y (.inr ([],())))) λo=>match o with
 |.inl _=>((fR (ax (al c+al a)) (ax (al c+al a))).bind λl=>(loop (σ:=i5) (ρ:=ht) (λ(b,g,_)=>bw (br (b<al c)) ((ar c b).bind λh=>(loop (σ:=qh) (ρ:=i5) (λ(e,d,f,_)=>bw (br (d<al a)) ((ar a d).bind λi=>rd f (ax (b+d)) λj=>wr f (ax (b+d)) (eC (e0 bD (aK (aK (aK (aK h*aK i)+aK j)+e)) 4294967295)) λs=>(eN bD (aK (aK (aK (aK h*aK i)+aK j)+e)) 32).bind λr=>Y (.inl (r,aM d,s,()))) (Y (.inr (e,f,())))) (0,0,g,())).bind λ(k,m,_)=>wr m (ax (b+al a)) (eC k) λt=>Y (.inl (aM b,t,()))) (Y (.inr (g,())))) (0,bI l (0:Z),())).bind λ(n,_)=>(iP (n,())).bind λ(q,_)=>Y (q,()))
 |.inr p=>Y p
def De:l8->bv gN:=λ(a,b,_)=>(iP (a.2.1,())).bind λ(c,_)=>(iP (b.2.1,())).bind λ(aS,_)=>(Dj (c,aS,())).bind λ(d,_)=>(md ((!(a.1==b.1)),d,())).bind λ(e,_)=>Y (e,())
def nQ:nb->bv gJ:=λ(b,c,_)=>(xp (b,c,())).bind λ(a,aS,d,_)=>(bw (!d) ((zN ()).bind λ(e,_)=>Y (e,())) ((De (a.2.1,aS.2.1,())).bind λ(f,_)=>(u3 (f,ax (a.2.2.1+aS.2.2.1),())).bind λ(g,_)=>Y (g,())))
def CX:gJ->bv gJ:=λ(b,_)=>(qr (b,())).bind λ(a,d,_)=>bB (α:=nb) (bw d ((s5 (a.2.1,())).bind λ(aS,_)=>Y ((a.1,(aS,a.2.2)),(bp,((bp,([],())),((0:Z),()))),())) (Y (a,(bp,((bp,([],())),((0:Z),()))),()))) λ(c,_,_)=>Y (c,())
def pg:qi->bv gN:=λ(a,b,_)=>(rC (a,b,())).bind λ(c,_,_)=>Y (c,())
def CW:cM->bv hq:=λ(a,_)=>Y ((a !=a),())
def CU:nf->bv cM:=λ(a,b,_)=>(CW (a,())).bind λ(c,_)=>(CW (b,())).bind λ(aS,_)=>(bw c (bw aS (Y (0,())) (Y ((-1:Z),()))) (bw aS (Y (1,())) (bw (br (a<b)) (Y ((-1:Z),())) (bw (br (a>b)) (Y (1,())) (Y (0,()))))))
def xw:kn->bv cM:=λ(b,c,_)=>(bif al b !=al c then(u1 (al b,al c,())).bind λ(f,_)=>Y (f,()) else((loop (σ:=cM) (ρ:=oA) (λ(a,_)=>bw (br (a>=0)) ((ar b a).bind λh=>(ar c a).bind λi=>bw (h !=i) ((ar b a).bind λj=>(ar c a).bind λk=>(CU (j,k,())).bind λ(g,_)=>Y (.inr (.inr (g,())))) (Y (.inl (ax (a-1),())))) (Y (.inr (.inl ())))) (ax (al b-1),())).bind λd=>match d with
 |.inl _=>(Y (0,()))
 |.inr e=>Y e))
def xx:kn->bv ht:=λ(b,d,_)=>(fR (al b) (al b)).bind λi=>(loop (σ:=qh) (ρ:=ht) (λ(e,a,c,_)=>bw (br (a<al b)) (bB (α:=i5) ((ar b a).bind λg=>bB (α:=i5) (bw (br (a<al d)) ((ar d a).bind λn=>Y (aK (aK (aK g-e)-aK n),c,())) (Y (aK (aK g-e),c,()))) λ(f,j,_)=>wr j a (eC (e0 bD f 4294967295)) λp=>(eN bD f 32).bind λo=>Y (e0 bD o 1,p,())) λ(h,k,_)=>Y (.inl (h,aM a,k,()))) (Y (.inr (c,())))) (0,0,bI i (0:Z),())).bind λ(l,_)=>(iP (l,())).bind λ(m,_)=>Y (m,())
def u6:l8->bv gN:=λ(a,c,_)=>(iP (a.2.1,())).bind λ(b,_)=>(iP (c.2.1,())).bind λ(aS,_)=>(bw (a.1==c.1) ((xy (b,aS,())).bind λ(f,_)=>(md (a.1,f,())).bind λ(g,_)=>Y (g,())) ((xw (b,aS,())).bind λ(h,_)=>bw (br (h>=0)) ((xx (b,aS,())).bind λ(i,_)=>(md (a.1,i,())).bind λ(j,_)=>Y (j,())) ((xx (aS,b,())).bind λ(d,_)=>(md (c.1,d,())).bind λ(e,_)=>Y (e,()))))
def pf:gJ->bv cM:=λ(a,_)=>(qr (a,())).bind λ(b,_,_)=>(qs (b.2.1,())).bind λ(aS,_)=>Y (aS,())
def xn:gJ->bv gJ:=λ(a,_)=>(qr (a,())).bind λ(b,_,_)=>Y (b,())
def Di:nK->bv nK:=λ(a,c,_)=>(fR (al a) (al a)).bind λh=>(loop (σ:=qh) (ρ:=i5) (λ(e,b,d,_)=>bw (br (b>=0)) ((ig bD e 32).bind λf=>(ar a b).bind λg=>(kA bD (gv bD f (aK g)) (aK c)).bind λl=>wr d b (eC l) λn=>(jf (gv bD f (aK g)) (aK c)).bind λm=>Y (.inl (m,ax (b-1),n,()))) (Y (.inr (e,d,())))) (0,ax (al a-1),bI h (0:Z),())).bind λ(k,i,_)=>(iP (i,())).bind λ(j,_)=>Y (j,eC k,())
def vc:cM->bv cM:=λ(b,_)=>(xB (b,())).bind λ(a,_)=>Y (ax (32-a),())
def zY:((bf×X×X)×bf×bt)->bv nK:=λ(b,a,_)=>(ba (b.2.2-b.2.1) (al a)).bind λV=>(a1 b.1 (b.2.1+V) λP=>Y P).bind λdg=>(ig bD (aK dg) 32).bind λI=>(ba (b.2.2-b.2.1) (ax (al a-1))).bind λav=>(a1 b.1 (b.2.1+av) λT=>Y T).bind λK=>(ar a (ax (al a-1))).bind λbs=>(kA bD (gv bD I (aK K)) (aK bs)).bind λbx=>(ar a (ax (al a-1))).bind λce=>(jf (gv bD I (aK K)) (aK ce)).bind λci=>(loop (σ:=(ej×Z×Z×bf×bt)) (ρ:=(ej×Z×bf×bt)) (λ(g,h,r,m,_)=>bB (α:=(ej×bf×bt)⊕((ej×Z×Z×bf×bt)⊕(ej×Z×bf×bt))) (bif br (h>4294967295)==bp then(ar a (ax (al a-2))).bind λco=>(ig bD r 32).bind λcs=>(ba (g.2-g.1) (ax (al a-2))).bind λU=>(a1 m (g.1+U) λN=>Y N).bind λcv=>bif br (aK (h*aK co)>gv bD cs (aK cv)) then
 Y (.inl (g,m,())) else Y (.inr (.inr (g,h,m,()))) else Y (.inl (g,m,()))) λa0=>match a0 with
 |.inl (C,D,_)=>((ar a (ax (al a-1))).bind λE=>bw (br (aK (r+aK E)>4294967295)) (Y (.inr (C,aK (h-1),D,()))) (Y (.inl (C,aK (h-1),aK (r+aK E),D,()))))
 |.inr a3=>Y a3) (b.2,bx,ci,b.1,())).bind λ(a4,i,bl,_)=>(loop (σ:=(ej×Z×Z×Z×bf×bt)) (ρ:=(ej×Z×Z×bf×bt)) (λ(e,l,p,j,n,_)=>bw (br (j<al a)) ((ar a j).bind λu=>(eN bD (aK (aK (i*aK u)+l)) 32).bind λc1=>(ba (e.2-e.1) j).bind λad=>(a1 n (e.1+ad) λO=>Y O).bind λF=>(ba (e.2-e.1) j).bind λy=>(a1 n (e.1+y) λ_=>Y (n.set (e.1+y) (eC (e0 bD (aK (aK (aK F-e0 bD (aK (aK (i*aK u)+l)) 4294967295)-p)) 4294967295)))).bind λd1=>(eN bD (aK (aK (aK F-e0 bD (aK (aK (i*aK u)+l)) 4294967295)-p)) 32).bind λc2=>Y (.inl (e,c1,e0 bD c2 1,aM j,d1,()))) (Y (.inr (e,l,p,n,())))) (a4,0,0,0,bl,())).bind λ(c,x,w,s,_)=>(ba (c.2-c.1) (al a)).bind λam=>(a1 s (c.1+am) λQ=>Y Q).bind λG=>
 (ba (c.2-c.1) (al a)).bind λz=>(a1 s (c.1+z) λ_=>Y (s.set (c.1+z) (eC (e0 bD (aK (aK (aK G-x)-w)) 4294967295)))).bind λv=>(eN bD (aK (aK (aK G-x)-w)) 32).bind λdl=>(bif e0 bD dl 1==0 then bw (bH c.1 b.2.1&&(bH c.2 b.2.2&&(bH v.length ((b.1).length)&&b9 c.1 c.2))) (Y (v,eC i,())) bo else(loop (σ:=(ej×Z×Z×bf×bt)) (ρ:=(ej×Z×bf×bt)) (λ(f,q,k,o,_)=>bw (br (k<al a)) ((ar a k).bind λH=>(ba (f.2-f.1) k).bind λan=>(a1 o (f.1+an) λR=>Y R).bind λJ=>(ba (f.2-f.1) k).bind λA=>(a1 o (f.1+A) λ_=>Y (o.set (f.1+A) (eC (e0 bD (aK (aK (aK J+aK H)+q)) 4294967295)))).bind λd2=>(eN bD (aK (aK (aK J+aK H)+q)) 32).bind λds=>Y (.inl (f,ds,aM k,d2,()))) (Y (.inr (f,q,o,())))) (c,0,0,v,())).bind λ(d,M,t,_)=>
 (ba (d.2-d.1) (al a)).bind λap=>(a1 t (d.1+ap) λS=>Y S).bind λd0=>(ba (d.2-d.1) (al a)).bind λB=>(a1 t (d.1+B) λ_=>Y (t.set (d.1+B) (eC (d0+eC M)))).bind λL=>bw (bH d.1 b.2.1&&(bH d.2 b.2.2&&(bH L.length ((b.1).length)&&b9 d.1 d.2))) (Y (L,eC (aK (i-1)),())) bo)
def Dh:kn->bv kn:=λ(a,b,_)=>(xw (a,b,())).bind λ(t,_)=>(bif br (t<0) then(ve (a,())).bind λ(u,_)=>Y ([],u,()) else bif al b==1 then(ar b 0).bind λC=>(Di (a,C,())).bind λ(v,w,_)=>(iP ([w],())).bind λ(x,_)=>Y (v,x,()) else(ar b (ax (al b-1))).bind λD=>(vc (D,())).bind λ(h,_)=>(xz (b,h,())).bind λ(e,_)=>(fR (aM (al a)) (aM (al a))).bind λc=>(xz (a,h,())).bind λ(i,_)=>(fR (ax (al (jF (bI c (0:Z)) i 0 (bI c (0:Z)).length)-al e)) (ax (al (jF (bI c (0:Z)) i 0 (bI c (0:Z)).length)-al e))).bind λn=>(loop (σ:=(Z×bf×bf×bt)) (ρ:=kn) (λ(d,p,g,_)=>bif br (d>=0) then((g8 d).bind λj=>(g8 (aM (ax (d+al e)))).bind λk=>(hZ j k g.length).bind λ_=>(wa g.length).map λ_=>(j,k)).bind λf=>
 bw (b9 f.1 f.2) ((zY ((g,f.1,f.2),e,())).bind λ(r,y,_)=>wr p d y λE=>Y (.inl (ax (d-1),E,r,()))) bo else Y (.inr (p,g,()))) (ax (al (bI n (0:Z))-1),bI n (0:Z),jF (bI c (0:Z)) i 0 (bI c (0:Z)).length,())).bind λ(s,q,_)=>((Y (0)).bind λl=>(g8 (al e)).bind λm=>(hZ l m q.length).map λ_=>(l,m)).bind λo=>(iP (((q.take o.2).drop o.1),())).bind λ(z,_)=>(zZ (z,h,())).bind λ(A,_,_)=>(iP (s,())).bind λ(B,_)=>Y (B,A,()))
def zW:l8->bv cM:=λ(b,c,_)=>(qs (b,())).bind λ(a,_)=>(qs (c,())).bind λ(aS,_)=>(bw (br (a<aS)) (Y ((-1:Z),())) (bw (br (a>aS)) (Y (1,())) ((iP (b.2.1,())).bind λ(d,_)=>(iP (c.2.1,())).bind λ(e,_)=>(xw (d,e,())).bind λ(f,_)=>Y (ax (a*f),()))))
def CZ:(w9×bt)->bv cM:=λ(a,_)=>(s4 (a.2.1,())).bind λ(b,_)=>Y (ax (ax (a.2.2.1+b)-1),())
def Dg:l8->bv gN:=λ(b,a,_)=>(u6 (b,((!a.1),a.2),())).bind λ(c,_)=>Y (c,())
def zL:(w9×Z×bt)->bv (eY×Z×bA×bt):=λ(a,b,_)=>(s4 (a.2.1,())).bind λ(h,_)=>(bw (br (b>h)) (Y ((bp,(([]:bf),())),(-1:Z),bp,())) ((zO (a.2.1,b,())).bind λ(aS,_)=>(pg (aS,b,())).bind λ(i,_)=>(Dg (a.2.1,i,())).bind λ(c,_)=>(u7 (1,())).bind λ(j,_)=>(pg (j,ax (b-1),())).bind λ(k,_)=>(zW (c,k,())).bind λ(d,_)=>bB (α:=(Z×eY×eY×bt)) (bw ((d==0)==bq) (bw a.2.2.2.1 (Y (1,aS,c,())) (Y (d,aS,c,()))) (Y (d,aS,c,()))) λ(e,f,l,_)=>(qs (l,())).bind λ(g,_)=>bw ((g==0)==bq) (Y (f,e,(!a.2.2.2.1),())) (Y (f,e,bp,()))))
def C0:(w9×Z×Z×bt)->bv gN:=λ(c,e,d,_)=>bB (α:=(Z×bA×eY×eY×bt)) (bw (br (e<=c.2.2.1)) ((pg (c.2.1,ax (c.2.2.1-e),())).bind λ(aS,_)=>Y ((-1:Z),bq,(bp,([],())),aS,())) ((zL (c,ax (e-c.2.2.1),())).bind λ(s,t,u,_)=>Y (t,u,(bp,([],())),s,()))) λ(f,l,b,a,_)=>bB (α:=(bA×eY×eY×bt)) (bw l (Y (bp,b,a,())) (bw (d==1) (Y (c.1,b,a,())) (bw (d==2) (Y ((!c.1),b,a,())) (bw (d==3) (Y (bp,b,a,())) (bw (br (f>0)==bp) (bw ((f==0)==bq) ((qs (a,())).bind λ(n,_)=>bw ((n !=0)==bq) ((zX (a,())).bind λ(o,_)=>Y ((o==0),b,a,())) (Y (bp,b,a,()))) (Y (bp,b,a,()))) (Y (bq,b,a,()))))))) λ(k,i,g,_)=>bB (α:=l8) (bw k ((u7 (1,())).bind λ(p,_)=>(u6 (g,p,())).bind λ(q,_)=>Y (i,q,())) (Y (i,g,()))) λ(j,h,_)=>bB (α:=l8) (bw c.1 ((s5 (h,())).bind λ(r,_)=>Y (j,r,())) (Y (j,h,()))) λ(_,m,_)=>Y (m,())
def u5:gN->bv gN:=λ(a,_)=>(ve (a.2.1,())).bind λ(b,_)=>(md (bp,b,())).bind λ(c,_)=>Y (c,())
def Dd:gN->bv ed:=λ(c,_)=>(iP (c.2.1,())).bind λ(d,_)=>(bif br (al d>2) then Y (0,bp,()) else((loop (σ:=nf) (ρ:=cM) (λ(e,b,_)=>bw (br (b<al d)) ((ar d b).bind λj=>(ig bD (aK j) (ax (32*b))).bind λk=>Y (.inl (gv bD e k,aM b,()))) (Y (.inr (e,())))) (0,0,())).bind λ(a,_)=>bB (α:=bt⊕ed) (bB (α:=hq) (bw (c.1==bq) (bw (br (a>0)==bq) (Y (br (a<=9223372036854775808),())) (Y (bp,()))) (Y (bp,()))) λ(h,_)=>bw h (Y (.inr (ax (ax (0-ax (aK (a-1)))-1),bq,()))) (bB (α:=hq) (bw (br (a<9223372036854775808)==bq) (bw ((!c.1)==bp) (Y ((a==0),())) (Y (bq,()))) (Y (bp,()))) λ(i,_)=>bw i (Y (.inr (ax a,bq,()))) (Y (.inl ())))) λf=>match f with
 |.inl _=>(Y (0,bp,()))
 |.inr g=>Y g))
def u4:ed->bv cM:=λ(a,b,_)=>(bw b (Y (gv bD a 9223372036854775808,())) (Y (a,())))
def C5:ef->bv cM:=λ(a,b,_)=>bB (α:=bt⊕cM) (bB (α:=hq) (bw ((b==3)==bp) (bw ((b==1)==bq) (bw ((!a)==bp) (bw ((b==2)==bq) (Y (a,())) (Y (bp,()))) (Y (bq,()))) (bw ((b==2)==bq) (Y (a,())) (Y (bp,())))) (Y (bq,()))) λ(f,_)=>bw f ((u4 (9218868437227405311,a,())).bind λ(aS,_)=>Y (.inr (aS,()))) (Y (.inl ()))) λc=>match c with
 |.inl _=>((u4 (9218868437227405312,a,())).bind λ(e,_)=>Y (e,()))
 |.inr d=>Y d
def zP:(w9×Z×bt)->bv cM:=λ(b,d,_)=>(CZ (b,())).bind λ(a,_)=>(C0 (b,(if(-1074:Z)>ax (a-52) then(-1074:Z) else ax (a-52)),d,())).bind λ(aS,_)=>(u5 (aS,())).bind λ(j,_)=>(Dd (j,())).bind λ(f,_,_)=>bB (α:=nf) (bw (aK f==9007199254740992) (Y (aM (if(-1074:Z)>ax (a-52) then(-1074:Z) else ax (a-52)),4503599627370496,())) (Y ((if(-1074:Z)>ax (a-52) then(-1074:Z) else ax (a-52)),aK f,()))) λ(e,c,_)=>(bw (br (c<4503599627370496)) ((u4 (c,b.1,())).bind λ(g,_)=>Y (g,())) (bw (br (ax (e+1075)>=2047)) ((C5 (b.1,d,())).bind λ(h,_)=>Y (h,())) ((ig bD (aK (ax (e+1075))) 52).bind λk=>(u4 (gv bD k (aK (c-4503599627370496)),b.1,())).bind λ(i,_)=>Y (i,()))))
def C1:cM->bv cM:=λ(c,_)=>(xu (c,())).bind λ(a,b,_)=>bB (α:=hq) (bw ((a==2047)==bq) (Y ((b !=0),())) (Y (bp,()))) λ(d,_)=>(bw d (Y (3,())) (bw (a==2047) (Y (2,())) (bw ((a==0)==bq) (bw (b==0) (Y (0,())) (Y (1,()))) (Y (1,())))))
def Dc:l8->bv (eY×eY×Z×bt):=λ(a,d,_)=>(iP (d.2.1,())).bind λ(b,_)=>(bw (al b==0) (Y ((bp,(([]:bf),())),(bp,(([]:bf),())),8,())) ((iP (a.2.1,())).bind λ(aS,_)=>(Dh (aS,b,())).bind λ(f,c,_)=>bB (α:=(bf×bf×eY×eY×bt)) (bB (α:=(bA×eY×eY×bt)) (bw (a.1==bq) (Y (br (al c>0),(bp,([],())),(bp,([],())),())) (Y (bp,(bp,([],())),(bp,([],())),()))) λ(n,e,g,_)=>bw n ((xy (f,[1],())).bind λ(j,_)=>(xx (b,c,())).bind λ(k,_)=>Y (j,k,e,g,())) (Y (f,c,e,g,()))) λ(h,i,_,_,_)=>(md ((!(a.1==d.1)),h,())).bind λ(l,_)=>(md (bp,i,())).bind λ(m,_)=>Y (l,m,0,())))
def CY:(fa×fa×Z×bt)->bv (w9×bt):=λ(a,b,c,_)=>(s4 (b.2.1,())).bind λ(aS,_)=>(s4 (a.2.1,())).bind λ(d,_)=>(u5 (a.2.1,())).bind λ(g,_)=>(pg (g,(if(ax (ax (ax (c+3)+aS)-d))>0 then ax (ax (ax (c+3)+aS)-d) else 0),())).bind λ(h,_)=>(u5 (b.2.1,())).bind λ(i,_)=>(Dc (h,i,())).bind λ(j,e,_,_)=>(qs (e,())).bind λ(f,_)=>Y (((!(a.2.1.1==b.2.1.1)),(j,(ax (ax (a.2.2.1-(if(ax (ax (ax (c+3)+aS)-d))>0 then ax (ax (ax (c+3)+aS)-d) else 0))-b.2.2.1),((f !=0),())))),())
def s3:(fa×fa×Z×bt)->bv cM:=λ(c,f,h,_)=>(xn (c,())).bind λ(aS,_)=>(xn (f,())).bind λ(a,_)=>bB (α:=nb⊕cM) (bB (α:=(bA×fa×fa×bt)) (bw (aS.1==bp) (bw (a.1==bp) ((pf (a,())).bind λ(n,_)=>Y ((n==0),aS,a,())) (Y (bq,aS,a,()))) (Y (bq,aS,a,()))) λ(o,b,g,_)=>bw o (Y (.inr (9221120237041090560,()))) ((pf (b,())).bind λ(k,_)=>bw (k==0) (Y (.inr (0,()))) (Y (.inl (b,g,()))))) λi=>match i with
 |.inl (d,e,_)=>((CY (d,e,56,())).bind λ(l,_)=>(zP (l,h,())).bind λ(m,_)=>Y (m,()))
 |.inr j=>Y j
def s9:cM->bv hq:=λ(a,_)=>(eN bD a 52).bind λb=>Y ((e0 bD b 2047 !=2047),())
def Ee:cM->bv hq:=λ(a,_)=>Y ((e0 bD a 9223372036854775808 !=0),())
def pn:cM->bv gJ:=λ(a,_)=>(s9 (a,())).bind λ(f,_)=>(bw (!f) ((rG ()).bind λ(g,_)=>Y (g,())) ((eN bD a 52).bind λc=>bB (α:=(Z×Z×fa×bt)) (bw (br (ax (e0 bD c 2047)>0)) (Y (gv bD (e0 bD a 4503599627370495) 4503599627370496,ax (ax (e0 bD c 2047)-1075),(bp,((bp,([],())),((0:Z),()))),())) (Y (e0 bD a 4503599627370495,(-1074:Z),(bp,((bp,([],())),((0:Z),()))),()))) λ(b,d,_,_)=>(Ee (a,())).bind λ(h,_)=>(eN bD b 32).bind λi=>(nR ((h,([eC b,eC i],())),d,())).bind λ(e,_)=>Y (e,())))
def D5:gJ->bv gJ:=λ(b,_)=>(mJ (b,())).bind λ(a,_)=>(bw a.1 (Y (a,())) ((rD (a.2.1,())).bind λ(c,_)=>(nR (c,a.2.2.1,())).bind λ(aS,_)=>Y (aS,())))
def Aq:(zp×bt)->bv gJ:=λ(h,_)=>(loop (σ:=(Z×Z×fa×eY×bt)) (ρ:=((Z×fa×eY×bt)⊕gJ)) (λ(b,e,c,d,_)=>bif br (e<al h) then(bB (α:=(Z×fa×eY×bt)⊕((Z×Z×fa×eY×bt)⊕((Z×fa×eY×bt)⊕gJ))) ((ar h e).bind λv=>(mJ (v,())).bind λ(a,_)=>bw a.1 ((rG ()).bind λ(q,_)=>Y (.inr (.inr (.inr (q,()))))) ((k5 (a.2.1,())).bind λ(r,_)=>bw (r==0) (Y (.inl (b,c,d,()))) ((k5 (d,())).bind λ(k,_)=>bw (k==0) (Y (.inl (a.2.2.1,c,a.2.1,()))) (bw (br (a.2.2.1>=b)) ((ni (a.2.1,ax (a.2.2.1-b),())).bind λ(l,_)=>(qv (d,l,())).bind λ(m,_)=>Y (.inl (b,c,m,()))) ((ni (d,ax (b-a.2.2.1),())).bind λ(n,_)=>(qv (n,a.2.1,())).bind λ(o,_)=>Y (.inl (a.2.2.1,c,o,()))))))) λf=>match f with
 |.inl (i,s,t,_)=>(Y (.inl (i,aM e,s,t,())))
 |.inr g=>Y g) else Y (.inr (.inl (b,c,d,())))) (0,0,(bp,((bp,([],())),((0:Z),()))),(bp,(([]:bf),())),())).bind λf=>match f with
 |.inl (j,_,u,_)=>((nR (u,j,())).bind λ(p,_)=>Y (p,()))
 |.inr g=>Y g
def D4:kn->bv ht:=λ(d,b,_)=>(fR (ax (al d+al b)) (ax (al d+al b))).bind λl=>(loop (σ:=i5) (ρ:=ht) (λ(a,g,_)=>bw (br (a<al d)) ((loop (σ:=qh) (ρ:=i5) (λ(e,c,f,_)=>bw (br (c<al b)) ((ar d a).bind λj=>(ar b c).bind λh=>rd f (ax (a+c)) λi=>wr f (ax (a+c)) (eC (aK (aK (e+aK (aK j*aK h))+aK i))) λp=>(eN bD (aK (aK (e+aK (aK j*aK h))+aK i)) 32).bind λo=>Y (.inl (o,aM c,p,()))) (Y (.inr (e,f,())))) (0,0,g,())).bind λ(k,m,_)=>wr m (ax (a+al b)) (eC k) λq=>Y (.inl (aM a,q,()))) (Y (.inr (g,())))) (0,bI l (0:Z),())).bind λ(n,_)=>Y (n,())
def pj:l8->bv gN:=λ(a,b,_)=>(mI (a.2.1,())).bind λ(c,_)=>(mI (b.2.1,())).bind λ(aS,_)=>(D4 (c,aS,())).bind λ(d,_)=>(me ((!(a.1==b.1)),d,())).bind λ(e,_)=>Y (e,())
def xM:nb->bv gJ:=λ(d,f,_)=>(mJ (d,())).bind λ(a,_)=>(mJ (f,())).bind λ(aS,_)=>bB (α:=(fa×fa×fa×bt)⊕gJ) (bB (α:=(bA×fa×fa×fa×bt)) (bw (a.1==bp) (Y (aS.1,a,aS,(bp,((bp,([],())),((0:Z),()))),())) (Y (bq,a,aS,(bp,((bp,([],())),((0:Z),()))),()))) λ(m,e,g,n,_)=>bw m ((rG ()).bind λ(l,_)=>Y (.inr (l,()))) (Y (.inl (e,g,n,())))) λh=>match h with
 |.inl (b,c,_,_)=>((pj (b.2.1,c.2.1,())).bind λ(j,_)=>(nR (j,ax (b.2.2.1+c.2.2.1),())).bind λ(k,_)=>Y (k,()))
 |.inr i=>Y i
def D9:gJ->bv gJ:=λ(b,_)=>(mJ (b,())).bind λ(a,_)=>(bw a.1 (Y (a,())) ((xH (a.2.1,())).bind λ(c,_)=>(nR (c,a.2.2.1,())).bind λ(aS,_)=>Y (aS,())))
def Ao:(bf×bf×Z×Z×bt)->bv (bf×bA×bt):=λ(w,b,i,r,_)=>(fR (aM (al b)) (aM (al b))).bind λs=>(loop (σ:=(Z×Z×Z×bf×bf×bt)) (ρ:=(Z×bf×bf×bt)) (λ(d,h,a,g,f,_)=>bw (br (a<=al b)) (bB (α:=(Z×Z×bf×bf×bt)) (bB (α:=(Z×bf×bf×bt)) (bw (br (a<al b)) ((ar b a).bind λz=>Y (aK (h+aK (r*aK z)),g,f,())) (Y (h,g,f,()))) λ(e,k,t,_)=>rd k (ax (a+i)) λn=>(eN bD e 32).bind λA=>wr t a (eC (aK (aK (aK n-d)-e0 bD e 4294967295))) λD=>(eN bD (aK (aK (aK n-d)-e0 bD e 4294967295)) 63).bind λB=>Y (B,A,k,D,())) λ(o,q,x,u,_)=>Y (.inl (o,q,aM a,x,u,()))) (Y (.inr (d,g,f,())))) (0,0,0,w,bI s (0:Z),())).bind λ(p,l,v,_)=>
 (bw (p !=0) (Y (l,bp,())) ((loop (σ:=(Z×bf×bf×bt)) (ρ:=ht) (λ(c,m,j,_)=>bw (br (c<=al b)) (rd j c λC=>wr m (ax (c+i)) C λE=>Y (.inl (aM c,E,j,()))) (Y (.inr (m,())))) (0,l,v,())).bind λ(y,_)=>Y (y,bq,())))
def D3:kn->bv kn:=λ(b,a,_)=>(Am (b,a,())).bind λ(u,_)=>(bif br (u<0) then Y ([],b,()) else(ar a (ax (al a-1))).bind λE=>(vc (E,())).bind λ(i,_)=>(xJ (b,i,())).bind λ(e,_)=>(xJ (a,i,())).bind λ(f,_)=>((Y (0)).bind λj=>(g8 (al a)).bind λk=>(hZ j k f.length).bind λ_=>(wa f.length).map λ_=>(j,k)).bind λd=>bB (α:=kn) (bw (al e==al b) ((cI (e.length+([0]).length)).bind λ_=>Y (((f.take d.2).drop d.1),(e++[0]),())) (Y (((f.take d.2).drop d.1),e,()))) λ(o,A,_)=>(fR (aM (ax (al b-al a))) (aM (ax (al b-al a)))).bind λr=>(loop (σ:=(Z×bf×bf×bt)) (ρ:=kn) (λ(c,g,m,_)=>bif br (c>=0) then rd g (ax (c+al a)) λF=>(ig bD (aK F) 32).bind λG=>rd g (ax (ax (c+al a)-1)) λH=>
 (ar o (ax (al a-1))).bind λI=>(kA bD (gv bD G (aK H)) (aK I)).bind λp=>(loop (σ:=(Z×bf×bf×bt)) (ρ:=(Z×bf×bf×bt)) (λ(h,B,n,_)=>(Ao (B,o,c,h,())).bind λ(l,v,_)=>bw (!v) (Y (.inl (aK (h-1),l,n,()))) (Y (.inr (h,l,n,())))) ((if 4294967295<p then 4294967295 else p),g,m,())).bind λ(q,C,s,_)=>wr s c (eC q) λJ=>Y (.inl (ax (c-1),C,J,())) else Y (.inr (g,m,()))) (ax (al b-al a),A,bI r (0:Z),())).bind λ(D,t,_)=>(mI (D,())).bind λ(w,_)=>(xK (w,i,())).bind λ(x,_,_)=>(mI (t,())).bind λ(y,_)=>(mI (x,())).bind λ(z,_)=>Y (y,z,()))
def vi:l8->bv l8:=λ(e,f,_)=>(pk (e,())).bind λ(a,_)=>(pk (f,())).bind λ(aS,_)=>(D3 (a.2.1,aS.2.1,())).bind λ(m,n,_)=>(me ((!(a.1==aS.1)),m,())).bind λ(b,_)=>(me (a.1,n,())).bind λ(c,_)=>bB (α:=(eY×eY×eY×eY×bt)) ((k5 (c,())).bind λ(o,_)=>bw (br (o<0)) ((rD (aS,())).bind λ(h,_)=>(qv (c,h,())).bind λ(d,_)=>bw aS.1 ((rE (1,())).bind λ(i,_)=>(qv (b,i,())).bind λ(j,_)=>Y ((bp,([],())),(bp,([],())),j,d,())) ((rE (1,())).bind λ(k,_)=>(xI (b,k,())).bind λ(l,_)=>Y ((bp,([],())),(bp,([],())),l,d,()))) (Y ((bp,([],())),(bp,([],())),b,c,()))) λ(_,_,g,p,_)=>Y (g,p,())
def Ap:gJ->bv cM:=λ(b,_)=>(mJ (b,())).bind λ(a,_)=>(bw a.1 (Y (0,())) ((k5 (a.2.1,())).bind λ(c,_)=>Y (c,())))
def Ea:(fa×Z×bt)->bv gJ:=λ(i,b,_)=>(mJ (i,())).bind λ(a,_)=>bB (α:=nb⊕gJ) (bB (α:=(bA×fa×fa×bt)) (bw (a.1==bp) ((k5 (a.2.1,())).bind λ(aS,_)=>Y ((aS==0),a,(bp,((bp,([],())),((0:Z),()))),())) (Y (bq,a,(bp,((bp,([],())),((0:Z),()))),()))) λ(o,f,p,_)=>bw o (Y (.inr (f,()))) (Y (.inl (f,p,())))) λc=>match c with
 |.inl (g,h,_)=>(bB (α:=nb⊕gJ) (bB (α:=(bA×fa×fa×bt)) (bw (br (b>262144)==bp) (Y (br (b<(-262144:Z)),g,h,())) (Y (bq,g,h,()))) λ(m,j,n,_)=>bw m ((rG ()).bind λ(k,_)=>Y (.inr (k,()))) (Y (.inl (j,n,())))) λc=>match c with
 |.inl (e,_,_)=>((nR (e.2.1,ax (e.2.2.1+b),())).bind λ(l,_)=>Y (l,()))
 |.inr d=>Y d)
 |.inr d=>Y d
def vj:nb->bv (eY×eY×Z×bt):=λ(a,b,_)=>(k5 (a.2.1,())).bind λ(c,_)=>(bw (c==0) (Y (a.2.1,b.2.1,b.2.2.1,())) ((k5 (b.2.1,())).bind λ(aS,_)=>bw (aS==0) (Y (a.2.1,b.2.1,a.2.2.1,())) (bw (br (a.2.2.1>b.2.2.1)) ((ni (a.2.1,ax (a.2.2.1-b.2.2.1),())).bind λ(d,_)=>Y (d,b.2.1,b.2.2.1,())) ((ni (b.2.1,ax (b.2.2.1-a.2.2.1),())).bind λ(e,_)=>Y (a.2.1,e,a.2.2.1,())))))
def D6:nb->bv gJ:=λ(b,f,_)=>(mJ (b,())).bind λ(a,_)=>(mJ (f,())).bind λ(aS,_)=>bB (α:=(fa×fa×fa×bt)⊕gJ) (bB (α:=(bA×fa×fa×fa×bt)) (bw (a.1==bp) (Y (aS.1,a,aS,(bp,((bp,([],())),((0:Z),()))),())) (Y (bq,a,aS,(bp,((bp,([],())),((0:Z),()))),()))) λ(p,d,g,q,_)=>bw p ((rG ()).bind λ(o,_)=>Y (.inr (o,()))) (Y (.inl (d,g,q,())))) λh=>match h with
 |.inl (c,e,_,_)=>((vj (c,e,())).bind λ(j,k,l,_)=>(qv (j,k,())).bind λ(m,_)=>(nR (m,l,())).bind λ(n,_)=>Y (n,()))
 |.inr i=>Y i
def Eb:nb->bv gJ:=λ(a,b,_)=>(D9 (b,())).bind λ(c,_)=>(D6 (a,c,())).bind λ(aS,_)=>Y (aS,())
def rB:cM->bv gJ:=λ(a,_)=>(u7 (a,())).bind λ(b,_)=>(u3 (b,0,())).bind λ(c,_)=>Y (c,())
def zM:nb->bv (eY×eY×Z×bt):=λ(a,b,_)=>(pg (a.2.1,ax (a.2.2.1-(if b.2.2.1<a.2.2.1 then b.2.2.1 else a.2.2.1)),())).bind λ(c,_)=>(pg (b.2.1,ax (b.2.2.1-(if b.2.2.1<a.2.2.1 then b.2.2.1 else a.2.2.1)),())).bind λ(aS,_)=>Y (c,aS,(if b.2.2.1<a.2.2.1 then b.2.2.1 else a.2.2.1),())
def zJ:nb->bv gJ:=λ(a,b,_)=>(xp (a,b,())).bind λ(e,aS,f,_)=>(bw (!f) ((zN ()).bind λ(g,_)=>Y (g,())) ((zM (e,aS,())).bind λ(h,i,j,_)=>(u6 (h,i,())).bind λ(c,_)=>(u3 (c,j,())).bind λ(d,_)=>Y (d,())))
def xo:nb->bv gJ:=λ(a,b,_)=>(CX (b,())).bind λ(c,_)=>(zJ (a,c,())).bind λ(aS,_)=>Y (aS,())
def zK:nb->bv ed:=λ(a,b,_)=>(xp (a,b,())).bind λ(c,aS,d,_)=>(bw (!d) (Y (0,bp,())) ((zM (c,aS,())).bind λ(e,f,_,_)=>(zW (e,f,())).bind λ(g,_)=>Y (g,bq,())))
def DH:ea->bv hq:=λ(a,c,b,_)=>(bw (br (a>=c)==bq) (Y (br (a<=b),())) (Y (bp,())))
def DO:ht->bv hq:=λ(b,_)=>(loop (σ:=cM) (ρ:=nc) (λ(a,_)=>bw (br (a>0)) ((ar b a).bind λf=>(ar b (ax (a-1))).bind λg=>(u2 (f,g,())).bind λ(e,_)=>bw e (Y (.inr (.inr (bp,())))) (Y (.inl (ax (a-1),())))) (Y (.inr (.inl ())))) (ax (al b-1),())).bind λc=>match c with
 |.inl _=>(Y (bq,()))
 |.inr d=>Y d
def DF:ng->bv hq:=λ(a,_)=>bB (α:=bt⊕hq) (bw ((al a.2.2.1 !=aM a.2.1)==bp) ((ar a.2.2.1 0).bind λm=>bw ((m !=0)==bp) ((DO (a.2.2.1,())).bind λ(l,_)=>bw ((!l)==bp) ((ar a.2.2.1 a.2.1).bind λn=>bw ((n !=al a.2.2.2.1)==bp) (bw (al a.2.2.2.1 !=al a.2.2.2.2.1) (Y (.inr (bp,()))) (Y (.inl ()))) (Y (.inr (bp,())))) (Y (.inr (bp,())))) (Y (.inr (bp,())))) (Y (.inr (bp,())))) λb=>match b with
 |.inl _=>((loop (σ:=cM) (ρ:=nc) (λ(e,_)=>bif br (e<a.2.1) then((ar a.2.2.1 e).bind λo=>(ar a.2.2.1 (aM e)).bind λp=>((g8 o).bind λh=>(g8 p).bind λi=>(hZ h i (a.2.2.2.1).length).map λ_=>(h,i)).bind λd=>(loop (σ:=nf) (ρ:=(bt⊕(cM⊕nc))) (λ(j,f,_)=>bif br (f<al (((a.2.2.2.1).take d.2).drop d.1)) then(bB (α:=cM⊕(nf⊕(bt⊕(cM⊕nc)))) ((ar (((a.2.2.2.1).take d.2).drop d.1) f).bind λg=>bB (α:=bt⊕(cM⊕(nf⊕(bt⊕(cM⊕nc))))) (bw (br (g<=j)==bp) (bw (br (g>=a.1)) (Y (.inr (.inr (.inr (.inr (.inr (.inr (bp,())))))))) (Y (.inl ()))) (Y (.inr (.inr (.inr (.inr (.inr (.inr (bp,()))))))))) λb=>match b with
 |.inl _=>(Y (.inl (g,())))
 |.inr c=>Y c) λb=>match b with
 |.inl (k,_)=>(Y (.inl (k,aM f,())))
 |.inr c=>Y c) else Y (.inr (.inl ()))) ((-1:Z),0,())).bind λb=>match b with
 |.inl _=>(Y (.inl (aM e,())))
 |.inr c=>Y c) else Y (.inr (.inl ()))) (0,())).bind λb=>match b with
 |.inl _=>(Y (bq,()))
 |.inr c=>Y c)
 |.inr c=>Y c
def H5:cM->bv hq:=λ(a,_)=>(ph (a,())).bind λ(b,_)=>Y ((!b),())
def H7:(bf×bt×bt)->bv cM:=λ(b,_,_)=>(loop (σ:=cM) (ρ:=oA) (λ(a,_)=>bw (br (a<al b)) ((ar b a).bind λf=>(H5 (f,())).bind λ(e,_)=>bw e (Y (.inr (.inr (a,())))) (Y (.inl (aM a,())))) (Y (.inr (.inl ())))) (0,())).bind λc=>match c with
 |.inl _=>(Y ((-1:Z),()))
 |.inr d=>Y d
def DI:(bf×bt×bt)->bv hq:=λ(b,_,_)=>(H7 (b,(),())).bind λ(a,_)=>Y (br (a>=0),())
def s8:ng->bv cM:=λ(a,_)=>bB (α:=hq) ((DH (a.1,0,200,())).bind λ(b,_)=>bw ((!b)==bp) ((DH (a.2.1,0,200,())).bind λ(c,_)=>bw ((!c)==bp) (Y (br (al a.2.2.2.1>10000),())) (Y (bq,()))) (Y (bq,()))) λ(f,_)=>(bw f (Y (6,())) ((DF (a,())).bind λ(d,_)=>bw (!d) (Y (1,())) ((DI (a.2.2.2.2.1,(),())).bind λ(e,_)=>bw e (Y (4,())) (Y (0,())))))
def Ez:nK->bv (bf×bA×bt):=λ(h,a,_)=>(bif al h !=a then Y ([],bp,()) else((fR a a).bind λi=>(fR a a).bind λj=>(loop (σ:=(Z×bf×gy×bt)) (ρ:=(ht⊕(bf×bA×bt))) (λ(f,e,g,_)=>bif br (f<al h) then(bB (α:=(bf×gy×bt)⊕((Z×bf×gy×bt)⊕(ht⊕(bf×bA×bt)))) ((ar h f).bind λd=>bB (α:=(bf×gy×bt)⊕((bf×gy×bt)⊕((Z×bf×gy×bt)⊕(ht⊕(bf×bA×bt))))) (bB (α:=(bA×bf×gy×bt)) (bw (br (d<0)==bp) (bw (br (d>=a)==bp) (rd g d λs=>Y (s,e,g,())) (Y (bq,e,g,()))) (Y (bq,e,g,()))) λ(o,k,p,_)=>bw o (Y (.inr (.inr (.inr (.inr ([],bp,())))))) (Y (.inl (k,p,())))) λb=>match b with
 |.inl (l,q,_)=>(wr l d f λt=>wr q d bq λu=>Y (.inl (t,u,())))
 |.inr c=>Y c) λb=>match b with
 |.inl (m,r,_)=>(Y (.inl (aM f,m,r,())))
 |.inr c=>Y c) else Y (.inr (.inl (e,())))) (0,bI i (0:Z),bI j bp,())).bind λb=>match b with
 |.inl (n,_)=>(Y (n,bq,()))
 |.inr c=>Y c))
def xD:ng->bv jV:=λ(b,_)=>(loop (σ:=oz) (ρ:=jV) (λ(a,e,_)=>bw (br (a<b.2.1)) ((ar b.2.2.1 a).bind λj=>(loop (σ:=oz) (ρ:=jV) (λ(c,d,_)=>(ar b.2.2.1 (aM a)).bind λk=>bw (br (c<k)) ((ar b.2.2.2.1 c).bind λf=>(ar b.2.2.2.2.1 c).bind λg=>(cI (d.length+([(f,(a,(g,())))]).length)).bind λ_=>Y (.inl (aM c,(d++[(f,(a,(g,())))]),()))) (Y (.inr (d,())))) (j,e,())).bind λ(h,_)=>Y (.inl (aM a,h,()))) (Y (.inr (e,())))) (0,[],())).bind λ(i,_)=>Y (i,())
def H6:jV->bv jV:=λ(a,_)=>r1 a.length (Y ([],())) ((cI (([]:k3).length+a.length)).bind λ_=>Y (([]++a),()))
def xE:((Z×(Z×cM))×(Z×(Z×cM))×bt)->bv cM:=λ(a,b,_)=>(u1 (a.2.1,b.2.1,())).bind λ(c,_)=>(u1 (a.1,b.1,())).bind λ(aS,_)=>(CV ([c,aS],())).bind λ(d,_)=>Y (d,())
def Ae:(k3×Z×Z×bt×bt)->bv jV:=λ(h,e,g,_,_)=>(loop (σ:=oz) (ρ:=jV) (λ(d,f,_)=>bif br (d<g) then(loop (σ:=oz) (ρ:=jV) (λ(a,b,_)=>bB (α:=jV⊕(oz⊕jV)) (bw (br (a>e)==bq) (rd b a λn=>rd b (ax (a-1)) λo=>(xE (n,o,())).bind λ(m,_)=>bw (br (m<0)) (Y (.inl (b,()))) (Y (.inr (.inr (b,()))))) (Y (.inr (.inr (b,()))))) λk=>match k with
 |.inl (c,_)=>(rd c (ax (a-1)) λp=>rd c a λq=>wr c a p λr=>wr r (ax (a-1)) q λs=>Y (.inl (ax (a-1),s,())))
 |.inr l=>Y l) (d,f,())).bind λ(i,_)=>Y (.inl (aM d,i,())) else Y (.inr (f,()))) (aM e,h,())).bind λ(j,_)=>Y (j,())
def DV:UU->bv jV:=λ(h,e,a,g,_,_)=>(bw (ax (a-e)==1) bo (bw (ax (g-a)==1) ((loop (σ:=zq) (ρ:=oz) (λ(c,d,b,_)=>bw (br (c<d)) ((eN bD (aK (ax (c+d))) 1).bind λf=>rd b a λo=>rd b (ax f) λp=>(xE (o,p,())).bind λ(n,_)=>bw (!(br (n<0))) (Y (.inl (aM (ax f),d,b,()))) bo) (Y (.inr (c,b,())))) (e,a,h,())).bind λ(l,i,_)=>(loop (σ:=oz) (ρ:=jV) (λ(m,j,_)=>bw (br (m>l)) bo (Y (.inr (j,())))) (a,i,())).bind λ(k,_)=>Y (k,())) bo))
def If:(k3×Z×bt×bt)->bv jV:=λ(l,a,_,_)=>(loop (σ:=zq) (ρ:=oz) (λ(e,c,h,_)=>bw (br (c<=a)) ((Ae (h,e,c,(),())).bind λ(s,_)=>Y (.inl (c,ax (c+20),s,()))) (Y (.inr (e,h,())))) (0,20,l,())).bind λ(j,p,_)=>(Ae (p,j,a,(),())).bind λ(q,_)=>(loop (σ:=oz) (ρ:=jV) (λ(b,f,_)=>bw (br (b<a)) ((loop (σ:=zq) (ρ:=oz) (λ(i,k,m,_)=>bw (br (k<=a)) bo (Y (.inr (i,m,())))) (0,ax (2*b),f,())).bind λ(d,g,_)=>bB (α:=jV) (bw (br (ax (d+b)<a)) ((DV (g,d,ax (d+b),a,(),())).bind λ(r,_)=>Y (r,())) (Y (g,()))) λ(n,_)=>Y (.inl (ax (b*2),n,()))) (Y (.inr (f,())))) (20,q,())).bind λ(o,_)=>
 Y (o,())
def Ic:(k3×bt×bt)->bv jV:=λ(a,_,_)=>(If (a,al a,(),())).bind λ(b,_)=>Y (b,())
def DG:jV->bv jV:=λ(a,_)=>(H6 (a,())).bind λ(c,_)=>(Ic (c,(),())).bind λ(b,_)=>Y (b,())
def DE:zq->bv ng:=λ(s,e,o,_)=>(fR (aM e) (aM e)).bind λr=>(DG (o,())).bind λ(i,_)=>(loop (σ:=(Z×da×da×k3×bt)) (ρ:=(da×da×bt)) (λ(f,k,a,l,_)=>bw (br (f<al i)) (rd l f λc=>(cI ((a.2.2.2.1).length+([c.1]).length)).bind λ_=>(cI ((a.2.2.2.2.1).length+([c.2.2.1]).length)).bind λ_=>(ba (a.2.2.1).length (aM c.2.1)).bind λn=>(a1 a.2.2.1 n λm=>Y m).bind λu=>(ba (a.2.2.1).length (aM c.2.1)).bind λg=>((((a1 a.2.2.1 g λ_=>Y ((a.2.2.1).set g (aM u))).map λx=>(x,((a.2.2.2.1++[c.1]),((a.2.2.2.2.1++[c.2.2.1]),a.2.2.2.2.2)))).map λy=>(a.2.1,y)).map λz=>(a.1,z)).bind λA=>Y (.inl (aM f,k,A,l,()))) (Y (.inr (k,a,())))) (0,((0:Z),((0:Z),([],([],([],()))))),(s,(e,(bI r (0:Z),(([]:bf),(([]:bf),()))))),i,())).bind λ(t,p,_)=>(loop (σ:=(Z×da×da×bt)) (ρ:=(da×da×bt)) (λ(d,j,b,_)=>
 bw (br (d<e)) (rd b.2.2.1 (aM d) λv=>rd b.2.2.1 d λw=>(ba (b.2.2.1).length (aM d)).bind λh=>((((a1 b.2.2.1 h λ_=>Y ((b.2.2.1).set h (ax (v+w)))).map λB=>(B,b.2.2.2)).map λC=>(b.2.1,C)).map λD=>(b.1,D)).bind λE=>Y (.inl (aM d,j,E,()))) (Y (.inr (j,b,())))) (0,t,p,())).bind λ(_,q,_)=>Y (q,())
def DD:ng->bv (da×Z×bt):=λ(a,_)=>(s8 (a,())).bind λ(aS,_)=>(bw (aS !=0) (Y (((0:Z),((0:Z),(([]:bf),(([]:bf),(([]:bf),()))))),aS,())) ((xD (a,())).bind λ(g,_)=>(loop (σ:=(Z×da×k3×k3×bt)) (ρ:=(da×k3×bt)) (λ(d,e,b,f,_)=>bw (br (d<al g)) (bB (α:=(da×k3×k3×bt)) (rd f d λc=>bw (br (c.1>=c.2.1)) ((cI (b.length+([c]).length)).bind λ_=>Y (e,(b++[c]),f,())) (Y (e,b,f,()))) λ(k,h,l,_)=>Y (.inl (aM d,k,h,l,()))) (Y (.inr (e,b,())))) (0,((0:Z),((0:Z),([],([],([],()))))),[],g,())).bind λ(_,i,_)=>(DE (a.1,a.2.1,i,())).bind λ(j,_)=>Y (j,0,())))
def DC:ng->bv jV:=λ(a,_)=>(s8 (a,())).bind λ(aS,_)=>(bw (aS !=0) (Y ([],())) ((xD (a,())).bind λ(b,_)=>Y (b,())))
def zR:ng->bv ((bm bf×bt)×Z×bt):=λ(a,_)=>(s8 (a,())).bind λ(c,_)=>(bw (c !=0) (Y ((([]:bm bf),()),c,())) (bw (a.1 !=a.2.1) (Y ((([]:bm bf),()),5,())) ((zS (a.2.1,())).bind λ(j,_)=>(DC (a,())).bind λ(aS,_)=>(loop (σ:=(Z×(bm bf×bt)×bm gy×k3×bt)) (ρ:=((bm bf×bt)×bm gy×bt)) (λ(b,d,e,f,_)=>bw (br (b<al aS)) (rd f b λg=>(zV (e,g.1,g.2.1,())).bind λ(h,_)=>Y (.inl (aM b,d,h,f,()))) (Y (.inr (d,e,())))) (0,([],()),j,aS,())).bind λ(_,k,_)=>(zU (k,())).bind λ(i,_)=>Y (i,0,()))))
def td:(da×bf×bt)->bv (bv rr×Z×bt):=λ(a,q,_)=>(s8 (a,())).bind λ(r,_)=>(bif r !=0 then Y (bo,r,()) else bif a.1 !=a.2.1 then Y (bo,5,()) else(Ez (q,a.2.1,())).bind λ(s,D,_)=>bif !D then Y (bo,90,()) else(DD (a,())).bind λ(E,_,_)=>(zR (E,())).bind λ(F,_,_)=>(zT (F,q,())).bind λ(G,_,_)=>(fR a.2.1 a.2.1).bind λp=>(loop (σ:=(Z×da×rr×bt)) (ρ:=(da×rr×bt)) (λ(j,k,c,_)=>bw (br (j<al (bI p (bo:bv (bm (Z×fa)×X))))) ((ba (c.2.2.1).length j).bind λn=>((((a1 c.2.2.1 n λ_=>Y ((c.2.2.1).set n (Y ([],0)))).map λL=>(L,c.2.2.2)).map λM=>(c.2.1,M)).map λN=>(c.1,N)).bind λO=>Y (.inl (aM j,k,O,()))) (Y (.inr (k,c,())))) (0,a,(a.2.1,(G,(bI p (bo:bv (bm (Z×fa)×X)),()))),())).bind λ(l,y,_)=>
 (loop (σ:=(Z×da×rr×bt)) (ρ:=(rr×bt)) (λ(e,m,o,_)=>bif br (e<l.2.1) then(ar m.2.2.1 e).bind λI=>(loop (σ:=(Z×da×rr×bt)) (ρ:=(da×rr×bt)) (λ(f,d,b,_)=>(ar d.2.2.1 (aM e)).bind λJ=>bw (br (f<J)) (bB (α:=(da×rr×bt)) ((ar d.2.2.2.1 f).bind λt=>bw (br (t>=e)) ((ar s t).bind λg=>(ar s e).bind λh=>(ba (b.2.2.1).length (if h<g then h else g)).bind λi=>(ar d.2.2.2.2.1 f).bind λK=>(k4 (K,())).bind λ(H,_)=>(a1 b.2.2.1 i λw=>Y w).bind λB=>(yg B (if h>g then h else g) H).bind λC=>((((a1 b.2.2.1 i λ_=>Y ((b.2.2.1).set i C)).map λP=>(P,b.2.2.2)).map λQ=>(b.2.1,Q)).map λR=>(b.1,R)).bind λS=>Y (d,S,())) (Y (d,b,()))) λ(u,z,_)=>Y (.inl (aM f,u,z,()))) (Y (.inr (d,b,())))) (I,m,o,())).bind λ(v,A,_)=>
 Y (.inl (aM e,v,A,())) else Y (.inr (o,()))) (0,l,y,())).bind λ(x,_)=>Y (Y x,0,()))
def xP:(bv rr×Z×Z×bt)->bv gJ:=λ(c,a,b,_)=>c.bind λd=>(ar d.2.2.1 (if b<a then b else a)).bind λe=>Y (((mR (α:=fa) e (if b>a then b else a)).getD (bp,((bp,([],())),((0:Z),())))),())
def qu:nf->bv cM:=λ(a,b,_)=>(jf (aK a) (aK b)).bind λc=>Y (ax c,())
def vh:nK->bv cM:=λ(b,a,_)=>bB (α:=cM) (bw (br (al b>0)) ((qu (a,al b,())).bind λ(e,_)=>(ar b e).bind λf=>Y (uk bD (aK (aK (aM a)*11400714819323198485)) f,())) (Y (aK (aK (aM a)*11400714819323198485),()))) λ(c,_)=>(eN bD c 31).bind λd=>(eN bD (aK (uk bD c d*13787848793156543929)) 29).bind λg=>Y (uk bD (aK (uk bD c d*13787848793156543929)) g,())
def Ig:cM->bv cM:=λ(b,_)=>(jf b 19).bind λc=>(Ed (ax (ax c-9),0,())).bind λ(a,_)=>Y (a,())
def vg:nf->bv cM:=λ(a,e,_)=>(qu (e,4,())).bind λ(b,_)=>(bw (b==1) ((eN bD a 52).bind λf=>(ig bD (aK (1019+e0 bD f 7)) 52).bind λg=>Y (gv bD (e0 bD a 9227875636482146303) g,())) (bw (b==2) ((eN bD a 8).bind λh=>(jf h 81).bind λi=>(ig bD (aK (983+i)) 52).bind λj=>Y (gv bD (e0 bD a 9225623836668461056) j,())) (bw (b==3) ((s9 (a,())).bind λ(d,_)=>bw (!d) (Y (0,())) (Y (a,()))) ((Ig (a,())).bind λ(c,_)=>Y (c,())))))
def vf:(bf×Z×Z×Z×bt)->bv ng:=λ(n,e,g,q,_)=>(loop (σ:=(Z×da×da×bt)) (ρ:=(da×da×bt)) (λ(d,k,h,_)=>bif br (d<g) then(loop (σ:=(Z×da×da×bt)) (ρ:=(da×da×bt)) (λ(c,f,a,_)=>bw (br (c<e)) (bB (α:=(da×da×bt)) ((vh (n,ax (ax (100+ax (d*e))+c),())).bind λ(i,_)=>(eN bD i 40).bind λr=>(jf r 3).bind λs=>bw (br (s>0)) ((cI ((a.2.2.2.1).length+([c]).length)).bind λ_=>(vg (i,q,())).bind λ(j,_)=>(cI ((a.2.2.2.2.1).length+([j]).length)).bind λ_=>Y (f,(a.1,(a.2.1,(a.2.2.1,((a.2.2.2.1++[c]),((a.2.2.2.2.1++[j]),a.2.2.2.2.2))))),())) (Y (f,a,()))) λ(o,l,_)=>Y (.inl (aM c,o,l,()))) (Y (.inr (f,a,())))) (0,k,h,())).bind λ(p,b,_)=>(cI ((b.2.2.1).length+([al b.2.2.2.1]).length)).bind λ_=>Y (.inl (aM d,p,(b.1,(b.2.1,((b.2.2.1++[al b.2.2.2.1]),b.2.2.2))),())) else
 Y (.inr (k,h,()))) (0,((0:Z),((0:Z),([],([],([],()))))),(e,(g,([0],(([]:bf),(([]:bf),()))))),())).bind λ(_,m,_)=>Y (m,())
def Eg:ht->bv hq:=λ(b,_)=>(loop (σ:=cM) (ρ:=nc) (λ(a,_)=>bw (br (a<al b)) ((ar b a).bind λe=>(s9 (e,())).bind λ(aS,_)=>bw (!aS) (Y (.inr (.inr (bp,())))) (Y (.inl (aM a,())))) (Y (.inr (.inl ())))) (0,())).bind λc=>match c with
 |.inl _=>(Y (bq,()))
 |.inr d=>Y d
def tb:ng->bv cM:=λ(a,_)=>bB (α:=bt⊕cM) (bw (br (a.1<0)==bp) (bw (br (a.1>200)==bp) (bw (br (a.2.1<0)==bp) (bw (br (a.2.1>200)==bp) (bw (br (al a.2.2.2.1>10000)) (Y (.inr (6,()))) (Y (.inl ()))) (Y (.inr (6,())))) (Y (.inr (6,())))) (Y (.inr (6,())))) (Y (.inr (6,())))) λb=>match b with
 |.inl _=>(bB (α:=bt⊕cM) (bw ((al a.2.2.2.2.1 !=al a.2.2.2.1)==bp) (bw ((al a.2.2.1 !=aM a.2.1)==bp) ((ar a.2.2.1 0).bind λn=>bw ((n !=0)==bp) ((ar a.2.2.1 a.2.1).bind λo=>bw (o !=al a.2.2.2.1) (Y (.inr (1,()))) (Y (.inl ()))) (Y (.inr (1,())))) (Y (.inr (1,())))) (Y (.inr (1,())))) λb=>match b with
 |.inl _=>((loop (σ:=cM) (ρ:=oA) (λ(f,_)=>bw (br (f<a.2.1)) ((ar a.2.2.1 f).bind λp=>(ar a.2.2.1 (aM f)).bind λq=>bw (br (p>q)) (Y (.inr (.inr (1,())))) (Y (.inl (aM f,())))) (Y (.inr (.inl ())))) (0,())).bind λb=>match b with
 |.inl _=>((loop (σ:=cM) (ρ:=oA) (λ(e,_)=>bif br (e<a.2.1) then((ar a.2.2.1 e).bind λr=>(loop (σ:=cM) (ρ:=(bt⊕(cM⊕oA))) (λ(d,_)=>(ar a.2.2.1 (aM e)).bind λh=>bif br (d<h) then(bB (α:=bt⊕(cM⊕(bt⊕(cM⊕oA)))) ((ar a.2.2.2.1 d).bind λi=>bw (br (i<0)==bp) ((ar a.2.2.2.1 d).bind λj=>bw (br (j>=a.1)==bp) ((ar a.2.2.1 e).bind λk=>bw (br (d>k)==bq) ((ar a.2.2.2.1 d).bind λl=>(ar a.2.2.2.1 (ax (d-1))).bind λm=>bw (br (l<=m)) (Y (.inr (.inr (.inr (.inr (.inr (1,()))))))) (Y (.inl ()))) (Y (.inl ()))) (Y (.inr (.inr (.inr (.inr (.inr (1,())))))))) (Y (.inr (.inr (.inr (.inr (.inr (1,())))))))) λb=>match b with
 |.inl _=>(Y (.inl (aM d,())))
 |.inr c=>Y c) else Y (.inr (.inl ()))) (r,())).bind λb=>match b with
 |.inl _=>(Y (.inl (aM e,())))
 |.inr c=>Y c) else Y (.inr (.inl ()))) (0,())).bind λb=>match b with
 |.inl _=>((Eg (a.2.2.2.2.1,())).bind λ(g,_)=>bw (!g) (Y (4,())) (Y (0,())))
 |.inr c=>Y c)
 |.inr c=>Y c)
 |.inr c=>Y c)
 |.inr c=>Y c
def vk:(da×Z×Z×bt)->bv cM:=λ(a,f,b,_)=>bB (α:=bt⊕cM) ((tb (a,())).bind λ(aS,_)=>bw ((aS !=0)==bp) (bw (br (b<0)==bp) (bw (br (b>=a.2.1)) (Y (.inr (0,()))) (Y (.inl ()))) (Y (.inr (0,())))) (Y (.inr (0,())))) λd=>match d with
 |.inl _=>((ar a.2.2.1 b).bind λg=>(loop (σ:=cM) (ρ:=oA) (λ(c,_)=>(ar a.2.2.1 (aM b)).bind λh=>bw (br (c<h)) ((ar a.2.2.2.1 c).bind λi=>bw (i==f) ((ar a.2.2.2.2.1 c).bind λj=>Y (.inr (.inr (j,())))) (Y (.inl (aM c,())))) (Y (.inr (.inl ())))) (g,())).bind λd=>match d with
 |.inl _=>(Y (0,()))
 |.inr e=>Y e)
 |.inr e=>Y e
def Ax:(da×Z×Z×bt)->bv hq:=λ(a,c,b,_)=>bB (α:=bt⊕hq) (bw (br (c<0)==bp) (bw (br (c>=a.1)==bp) (bw (br (b<0)==bp) (bw (br (b>=a.2.1)) (Y (.inr (bp,()))) (Y (.inl ()))) (Y (.inr (bp,())))) (Y (.inr (bp,())))) (Y (.inr (bp,())))) λe=>match e with
 |.inl _=>((ar a.2.2.1 b).bind λg=>(loop (σ:=cM) (ρ:=nc) (λ(d,_)=>(ar a.2.2.1 (aM b)).bind λh=>bw (br (d<h)) ((ar a.2.2.2.1 d).bind λi=>bw (i==c) (Y (.inr (.inr (bq,())))) (Y (.inl (aM d,())))) (Y (.inr (.inl ())))) (g,())).bind λe=>match e with
 |.inl _=>(Y (bp,()))
 |.inr f=>Y f)
 |.inr f=>Y f
def Af:(bf×Z×Z×bt)->bv ng:=λ(G,f,N,_)=>(qu (N,3,())).bind λ(aS,_)=>(vf (G,f,f,aS,())).bind λ(F,_)=>(loop (σ:=(Z×da×da×da×bt)) (ρ:=(da×da×bt)) (λ(h,r,w,n,_)=>bif br (h<f) then(loop (σ:=(Z×da×da×da×bt)) (ρ:=(da×da×da×bt)) (λ(a,j,g,b,_)=>bif br (a<f) then bB (α:=(da×da×da×bt)) (bif a==h then(xL (1,())).bind λ(A,_)=>(loop (σ:=(Z×da×da×da×zp×bt)) (ρ:=(da×da×da×zp×bt)) (λ(d,m,i,l,k,_)=>bif br (d<f) then bB (α:=(da×da×da×zp×bt)) (bw (d !=a) ((vk (i,(if d>a then d else a),(if d<a then d else a),())).bind λ(B,_)=>(pn (B,())).bind λ(C,_)=>(D5 (C,())).bind λ(o,_)=>(cI (k.length+([o]).length)).bind λ_=>Y (m,i,l,(k++[o]),())) (Y (m,i,l,k,()))) λ(H,s,x,I,_)=>
 Y (.inl (aM d,H,s,x,I,())) else Y (.inr (m,i,l,k,()))) (0,j,g,b,[A],())).bind λ(J,t,c,K,_)=>(cI ((c.2.2.2.1).length+([a]).length)).bind λ_=>(Aq (K,())).bind λ(D,_)=>(Ar (D,2,())).bind λ(p,_)=>(cI ((c.2.2.2.2.1).length+([p]).length)).bind λ_=>Y (J,t,(c.1,(c.2.1,(c.2.2.1,((c.2.2.2.1++[a]),((c.2.2.2.2.1++[p]),c.2.2.2.2.2))))),()) else(Ax (g,a,h,())).bind λ(E,_)=>bw E ((cI ((b.2.2.2.1).length+([a]).length)).bind λ_=>(vk (g,a,h,())).bind λ(q,_)=>(cI ((b.2.2.2.2.1).length+([q]).length)).bind λ_=>Y (j,g,(b.1,(b.2.1,(b.2.2.1,((b.2.2.2.1++[a]),((b.2.2.2.2.1++[q]),b.2.2.2.2.2))))),())) (Y (j,g,b,()))) λ(L,u,y,_)=>Y (.inl (aM a,L,u,y,())) else Y (.inr (j,g,b,()))) (0,r,w,n,())).bind λ(M,v,e,_)=>(cI ((e.2.2.1).length+([al e.2.2.2.1]).length)).bind λ_=>
 Y (.inl (aM h,M,v,(e.1,(e.2.1,((e.2.2.1++[al e.2.2.2.1]),e.2.2.2))),())) else Y (.inr (r,n,()))) (0,((0:Z),((0:Z),([],([],([],()))))),F,(f,(f,([0],(([]:bf),(([]:bf),()))))),())).bind λ(_,z,_)=>Y (z,())
def Ag:nK->bv ht:=λ(m,j,_)=>(loop (σ:=nK) (ρ:=ht) (λ(a,c,_)=>bw (br (c<j)) ((vh (m,ax (700+c),())).bind λ(l,_)=>(eN bD l 1).bind λn=>(qu (ax n,aM c,())).bind λ(i,_)=>((Y (0)).bind λg=>(g8 i).bind λh=>(hZ g h a.length).map λ_=>(g,h)).bind λb=>(cI (([]:bf).length+((a.take b.2).drop b.1).length)).bind λ_=>(cI (([]++((a.take b.2).drop b.1)).length+([c]).length)).bind λ_=>((g8 i).bind λe=>(Y a.length).bind λf=>(hZ e f a.length).map λ_=>(e,f)).bind λd=>(cI ((([]++((a.take b.2).drop b.1))++[c]).length+((a.take d.2).drop d.1).length)).bind λ_=>Y (.inl (((([]++((a.take b.2).drop b.1))++[c])++((a.take d.2).drop d.1)),aM c,()))) (Y (.inr (a,())))) ([],0,())).bind λ(k,_)=>Y (k,())
def Er:nK->bv hq:=λ(b,c,_)=>(bif al b !=c then Y (bp,()) else((fR c c).bind λg=>(loop (σ:=(Z×gy×bt)) (ρ:=nc) (λ(a,f,_)=>bif br (a<c) then(bB (α:=(gy×bt)⊕((Z×gy×bt)⊕nc)) (bB (α:=(gy×bt)⊕((gy×bt)⊕((Z×gy×bt)⊕nc))) ((ar b a).bind λl=>bw (br (l<0)==bp) ((ar b a).bind λm=>bw (br (m>=c)==bp) ((ar b a).bind λn=>rd f n λj=>bw j (Y (.inr (.inr (.inr (.inr (bp,())))))) (Y (.inl (f,())))) (Y (.inr (.inr (.inr (.inr (bp,()))))))) (Y (.inr (.inr (.inr (.inr (bp,()))))))) λd=>match d with
 |.inl (h,_)=>((ar b a).bind λk=>wr h k bq λo=>Y (.inl (o,())))
 |.inr e=>Y e) λd=>match d with
 |.inl (i,_)=>(Y (.inl (aM a,i,())))
 |.inr e=>Y e) else Y (.inr (.inl ()))) (0,bI g bp,())).bind λd=>match d with
 |.inl _=>(Y (bq,()))
 |.inr e=>Y e))
def Aw:ng->bv jV:=λ(b,_)=>(tb (b,())).bind λ(j,_)=>(bw (j !=0) (Y ([],())) ((loop (σ:=oz) (ρ:=jV) (λ(a,e,_)=>bw (br (a<b.2.1)) ((ar b.2.2.1 a).bind λk=>(loop (σ:=oz) (ρ:=jV) (λ(c,d,_)=>(ar b.2.2.1 (aM a)).bind λl=>bw (br (c<l)) ((ar b.2.2.2.1 c).bind λf=>(ar b.2.2.2.2.1 c).bind λg=>(cI (d.length+([(f,(a,(g,())))]).length)).bind λ_=>Y (.inl (aM c,(d++[(f,(a,(g,())))]),()))) (Y (.inr (d,())))) (k,e,())).bind λ(h,_)=>Y (.inl (aM a,h,()))) (Y (.inr (e,())))) (0,[],())).bind λ(i,_)=>Y (i,())))
def Ej:zq->bv ng:=λ(c,g,h,_)=>(fR (ax (c*g)) (ax (c*g))).bind λy=>(loop (σ:=(Z×da×da×bf×bt)) (ρ:=(da×da×bf×bt)) (λ(e,o,m,k,_)=>bw (br (e<al h)) ((ar h e).bind λD=>(ar h e).bind λC=>wr k (ax (ax (D.2.1*c)+C.1)) (aM e) λE=>Y (.inl (aM e,o,m,E,()))) (Y (.inr (o,m,k,())))) (0,((0:Z),((0:Z),([],([],([],()))))),(c,(g,([0],(([]:bf),(([]:bf),()))))),bI y (0:Z),())).bind λ(z,v,r,_)=>(loop (σ:=(Z×da×da×bf×bt)) (ρ:=(da×da×bt)) (λ(i,n,l,s,_)=>bif br (i<g) then(loop (σ:=(Z×da×da×bf×bt)) (ρ:=(da×da×bf×bt)) (λ(d,j,a,f,_)=>bif br (d<c) then bB (α:=(da×da×bf×bt)) (rd f (ax (ax (i*c)+d)) λp=>bif br (p>0) then(cI ((a.2.2.2.1).length+([d]).length)).bind λ_=>(ar h (ax (p-1))).bind λq=>
 (cI ((a.2.2.2.2.1).length+([q.2.2.1]).length)).bind λ_=>Y (j,(a.1,(a.2.1,(a.2.2.1,((a.2.2.2.1++[d]),((a.2.2.2.2.1++[q.2.2.1]),a.2.2.2.2.2))))),f,()) else Y (j,a,f,())) λ(A,w,t,_)=>Y (.inl (aM d,A,w,t,())) else Y (.inr (j,a,f,()))) (0,n,l,s,())).bind λ(B,b,u,_)=>(cI ((b.2.2.1).length+([al b.2.2.2.1]).length)).bind λ_=>Y (.inl (aM i,B,(b.1,(b.2.1,((b.2.2.1++[al b.2.2.2.1]),b.2.2.2))),u,())) else Y (.inr (n,l,()))) (0,z,v,r,())).bind λ(_,x,_)=>Y (x,())
def vl:ng->bv (da×Z×bt):=λ(b,_)=>(tb (b,())).bind λ(aS,_)=>(bw (aS !=0) (Y (((0:Z),((0:Z),(([]:bf),(([]:bf),(([]:bf),()))))),aS,())) ((Aw (b,())).bind λ(d,_)=>(loop (σ:=(Z×da×k3×bt)) (ρ:=(da×k3×bt)) (λ(a,e,c,_)=>bw (br (a<al d)) (bB (α:=(da×k3×bt)) ((ar d a).bind λl=>(ar d a).bind λk=>bw (br (l.1>=k.2.1)) ((ar d a).bind λf=>(cI (c.length+([f]).length)).bind λ_=>Y (e,(c++[f]),())) (Y (e,c,()))) λ(j,g,_)=>Y (.inl (aM a,j,g,()))) (Y (.inr (e,c,())))) (0,((0:Z),((0:Z),([],([],([],()))))),[],())).bind λ(_,h,_)=>(Ej (b.1,b.2.1,h,())).bind λ(i,_)=>Y (i,0,())))
def vo:ng->bv ((bm bf×bt)×Z×bt):=λ(a,_)=>(tb (a,())).bind λ(g,_)=>(bw (g !=0) (Y ((([]:bm bf),()),g,())) (bw (a.1 !=a.2.1) (Y ((([]:bm bf),()),5,())) ((AA (a.1,())).bind λ(l,_)=>(Aw (a,())).bind λ(aS,_)=>(loop (σ:=(Z×(bm bf×bt)×bm gy×bt)) (ρ:=((bm bf×bt)×bm gy×bt)) (λ(c,h,b,_)=>bw (br (c<al aS)) ((ar aS c).bind λo=>(ba b.length o.1).bind λd=>(ar aS c).bind λn=>((a1 b d λi=>Y i).bind λj=>ba j.length n.2.1).bind λf=>(a1 b d λe=>(a1 e f λ_=>Y (e.set f bq)).map λp=>b.set d p).bind λq=>Y (.inl (aM c,h,q,()))) (Y (.inr (h,b,())))) (0,([],()),l,())).bind λ(_,m,_)=>(Ay (m,())).bind λ(k,_)=>Y (k,0,()))))
def AE:nf->bv gJ:=λ(a,b,_)=>(pn (a,())).bind λ(c,_)=>(pn (b,())).bind λ(aS,_)=>(xM (c,aS,())).bind λ(d,_)=>Y (d,())
def Nv:ht->bv hq:=λ(a,_)=>(fR (al a) (al a)).bind λg=>(loop (σ:=(Z×gy×bt)) (ρ:=nc) (λ(e,f,_)=>bif br (e<al a) then(bB (α:=(gy×bt)⊕((Z×gy×bt)⊕nc)) ((ar a e).bind λd=>bB (α:=(gy×bt)⊕((gy×bt)⊕((Z×gy×bt)⊕nc))) (bw (br (d<0)==bp) (bw (br (d>=al a)==bp) (rd f d λj=>bw j (Y (.inr (.inr (.inr (.inr (bp,())))))) (Y (.inl (f,())))) (Y (.inr (.inr (.inr (.inr (bp,()))))))) (Y (.inr (.inr (.inr (.inr (bp,()))))))) λb=>match b with
 |.inl (i,_)=>(wr i d bq λk=>Y (.inl (k,())))
 |.inr c=>Y c) λb=>match b with
 |.inl (h,_)=>(Y (.inl (aM e,h,())))
 |.inr c=>Y c) else Y (.inr (.inl ()))) (0,bI g bp,())).bind λb=>match b with
 |.inl _=>(Y (bq,()))
 |.inr c=>Y c
def Es:(bf×Z×Z×bt)->bv hq:=λ(a,c,f,_)=>bB (α:=bt⊕hq) (bw ((al a !=aM c)==bp) ((ar a 0).bind λg=>bw ((g !=0)==bp) ((ar a c).bind λh=>bw (h !=f) (Y (.inr (bp,()))) (Y (.inl ()))) (Y (.inr (bp,())))) (Y (.inr (bp,())))) λd=>match d with
 |.inl _=>((loop (σ:=cM) (ρ:=nc) (λ(b,_)=>bw (br (b<c)) ((ar a b).bind λi=>(ar a (aM b)).bind λj=>bw (br (i>j)) (Y (.inr (.inr (bp,())))) (Y (.inl (aM b,())))) (Y (.inr (.inl ())))) (0,())).bind λd=>match d with
 |.inl _=>(Y (bq,()))
 |.inr e=>Y e)
 |.inr e=>Y e
def Ep:nf->bv (UV×bt):=λ(b,a,_)=>(fR (ax (b*a)) (ax (b*a))).bind λc=>Y ((b,(a,(bI c (bp,((bp,([],())),((0:Z),()))),()))),())
def xF:(da×bf×bf×bt)->bv (jv×bt):=λ(O,ex,fr,_)=>(vl (O,())).bind λ(aS,_,_)=>(vo (aS,())).bind λ(fn,_,_)=>(tc (fn,ex,())).bind λ(fp,_,_)=>(AD (fp,())).bind λ(h,_,_)=>(loop (σ:=(Z×jv×bm gy×bt)) (ρ:=ko) (λ(b,y,s,_)=>bif br (b<al h) then bB (α:=ko) (bB (α:=ko) (bB (α:=(bA×jv×bm gy×bt)) (bw ((b==0)==bp) ((vh (fr,ax (900+b),())).bind λ(fl,_)=>(eN bD fl 7).bind λf3=>(jf f3 3).bind λf4=>Y (br (f4>0),y,s,())) (Y (bq,y,s,()))) λ(fs,z,t,_)=>bif fs then(cI (z.length+([(b,(aM b,(([]:bf),((-1:Z),()))))]).length)).bind λ_=>(fR (al h) (al h)).bind λN=>(cI (t.length+([bI N bp]).length)).bind λ_=>Y ((z++[(b,(aM b,(([]:bf),((-1:Z),()))))]),(t++[bI N bp]),()) else
 Y (z,t,())) λ(m,co,_)=>(ba m.length (ax (al m-1))).bind λG=>(a1 m G λB=>Y (m.set G (B.1,(aM b,B.2.2)))).bind λgs=>(loop (σ:=(Z×jv×bm gy×bt)) (ρ:=ko) (λ(x,L,l,_)=>(ar h b).bind λf5=>bw (br (x<al f5)) ((ba l.length (ax (al m-1))).bind λw=>(ar h b).bind λf6=>(ar f6 x).bind λf7=>((a1 l w λT=>Y T).bind λU=>ba U.length f7).bind λH=>(a1 l w λC=>(a1 C H λ_=>Y (C.set H bq)).map λgt=>l.set w gt).bind λhc=>Y (.inl (aM x,L,hc,()))) (Y (.inr (L,l,())))) (0,gs,co,())).bind λ(ek,cs,_)=>Y (ek,cs,())) λ(el,cv,_)=>Y (.inl (aM b,el,cv,())) else Y (.inr (y,s,()))) (0,[],[],())).bind λ(em,c1,_)=>(loop (σ:=(Z×jv×bm gy×bt)) (ρ:=(jv×bt)) (λ(a,n,c2,_)=>bif br (a<al n) then(ba n.length a).bind λd0=>
 (a1 n d0 λV=>Y V.1).bind λf8=>(loop (σ:=(Z×jv×bm gy×bt)) (ρ:=ko) (λ(c,d,f,_)=>bif br (c<al h) then bB (α:=ko) ((ba f.length a).bind λI=>((a1 f I λad=>Y ad).bind λam=>ba am.length c).bind λd1=>(a1 f I λan=>a1 an d1 λap=>Y ap).bind λf9=>bif !f9 then Y (d,f,()) else(ba d.length a).bind λJ=>(a1 d J λav=>Y av.2.2.1).bind λfT=>(cI (fT.length+([c]).length)).bind λ_=>(ba d.length a).bind λp=>bif bH J p&&bq then(a1 d p λa0=>Y a0.2.2.1).bind λf0=>(a1 d p λr=>Y (d.set p (r.1,(r.2.1,((f0++[c]),r.2.2.2))))).bind λi=>bB (α:=ko) (bB (α:=(bA×jv×bm gy×bt)) ((ba i.length a).bind λd2=>(a1 i d2 λa3=>Y a3.2.1).bind λgc=>bif br (c>=gc)==bq then(ba i.length a).bind λd3=>(a1 i d3 λa4=>Y a4.2.2.2.1).bind λge=>
 Y (br (ge<0),i,f,()) else Y (bp,i,f,())) λ(ft,M,D,_)=>bw ft ((loop (σ:=(Z×jv×bm gy×bt)) (ρ:=ko) (λ(j,e,u,_)=>bw (br (j<al e)) (bB (α:=ko) (bB (α:=(bA×jv×bm gy×bt)) ((ba e.length j).bind λd4=>(a1 e d4 λbl=>Y bl.1).bind λgf=>bw (br (c>=gf)==bq) ((ba e.length j).bind λd5=>(a1 e d5 λbs=>Y bs.2.1).bind λgi=>Y (br (c<gi),e,u,())) (Y (bp,e,u,()))) λ(fz,q,E,_)=>bw fz ((ba q.length a).bind λK=>(a1 q K λo=>Y (q.set K (o.1,(o.2.1,(o.2.2.1,(j,o.2.2.2.2)))))).bind λhi=>Y (hi,E,())) (Y (q,E,()))) λ(eq,dg,_)=>Y (.inl (aM j,eq,dg,()))) (Y (.inr (e,u,())))) (aM a,M,D,())).bind λ(d6,bx,_)=>Y (d6,bx,())) (Y (M,D,()))) λ(g,k,_)=>(ba g.length a).bind λdl=>
 (a1 g dl λP=>Y P.2.1).bind λf1=>bw (br (c>=f1)) ((ba g.length a).bind λds=>(a1 g ds λQ=>Y Q.2.2.2.1).bind λf2=>(ba k.length f2).bind λv=>((a1 k v λR=>Y R).bind λS=>ba S.length c).bind λF=>(a1 k v λA=>(a1 A F λ_=>Y (A.set F bq)).map λgl=>k.set v gl).bind λgo=>Y (g,go,())) (Y (g,k,())) else bo) λ(d7,ce,_)=>Y (.inl (aM c,d7,ce,())) else Y (.inr (d,f,()))) (f8,n,c2,())).bind λ(d8,ci,_)=>Y (.inl (aM a,d8,ci,())) else Y (.inr (n,()))) (0,em,c1,())).bind λ(d9,_)=>Y (d9,())
def Ac:nK->bv cM:=λ(b,e,_)=>(loop (σ:=cM) (ρ:=oA) (λ(a,_)=>bw (br (a<al b)) ((ar b a).bind λf=>bw (e==f) (Y (.inr (.inr (a,())))) (Y (.inl (aM a,())))) (Y (.inr (.inl ())))) (0,())).bind λc=>match c with
 |.inl _=>(Y ((-1:Z),()))
 |.inr d=>Y d
abbrev aL:Type:=aj6
abbrev ka:Type:=(aL×bt)
abbrev iz:Type:=(bA×ka)
abbrev df:Type:=ei
abbrev de:Type:=(bA×(iz×df))
abbrev fP:Type:=(bm de)
abbrev gI:Type:=(bm fP)
abbrev fI:Type:=(aL×(aL×(aL×(aL×(aL×(aL×df))))))
abbrev uM:Type:=aj2
abbrev c5:Type:=(aL×(Z×(uM×(gI×bt))))
abbrev jC:Type:=(iz×(iz×bt))
abbrev iL:Type:=(Z×(Z×(fP×bt)))
abbrev km:Type:=eg
abbrev l7:Type:=(Z×(Z×df))
abbrev ju:Type:=eh
abbrev eH:Type:=(aL×ka)
abbrev h6:Type:=(bm (bm jC))
abbrev w7:Type:=(ea⊕(km⊕ju))
abbrev sO:Type:=(Z×(Z×(aL×df)))
abbrev zo:Type:=(df⊕(bt⊕(df⊕(bt⊕ju))))
abbrev w8:Type:=(Z×(Z×(aL×eH)))
abbrev Mg:Type:=(Z×fI×aL×fI×bt)
def DZ:(aL×Z×Z×bA×bt)->bv (w8×aL×bm sO×bt):=λ(b,g,e,f,_)=>(qu (g,6,())).bind λ(a,_)=>(vf (b,a,a,e,())).bind λ(i,_)=>bB (α:=(w8×w8×bt)) (bw f ((Af (b,a,e,())).bind λ(j,_)=>Y (((0:Z),((0:Z),([],([],([],()))))),j,())) (Y (((0:Z),((0:Z),([],([],([],()))))),i,()))) λ(_,c,_)=>(Ag (b,a,())).bind λ(d,_)=>(xF (c,d,b,())).bind λ(h,_)=>Y (c,d,h,())
def Dw:(sO×bm (bv c5)×bt)->bv (aL×Z×bt):=λ(a,j,_)=>(loop (σ:=(Z×aL×bt)) (ρ:=ka) (λ(h,m,_)=>bw (br (h<al j)) ((ar j h).bind λi=>i.bind λt=>(loop (σ:=(Z×aL×bt)) (ρ:=ka) (λ(e,d,_)=>bw (br (e<t.2.1)) (bB (α:=ka) (i.bind λu=>(ar u.2.2.1 e).bind λr=>bw r (i.bind λs=>(ar s.1 e).bind λn=>(cI (d.length+([n]).length)).bind λ_=>Y ((d++[n]),())) (Y (d,()))) λ(o,_)=>Y (.inl (aM e,o,()))) (Y (.inr (d,())))) (0,m,())).bind λ(p,_)=>Y (.inl (aM h,p,()))) (Y (.inr (m,())))) (0,[],())).bind λ(q,_)=>(loop (σ:=(Z×aL×bt)) (ρ:=ka) (λ(b,f,_)=>bw (br (b<a.2.1)) ((cI (f.length+([b]).length)).bind λ_=>Y (.inl (aM b,(f++[b]),()))) (Y (.inr (f,())))) (a.1,q,())).bind λ(g,_)=>
 ((g8 (ax (a.2.1-a.1))).bind λk=>(Y ((a.2.2.1).length)).bind λl=>(hZ k l (a.2.2.1).length).map λ_=>(k,l)).bind λc=>(cI (g.length+(((a.2.2.1).take c.2).drop c.1).length)).bind λ_=>Y ((g++(((a.2.2.1).take c.2).drop c.1)),al g,())
def Do:(c5×bv c5×bt)->bv (c5×bt):=λ(H,c,_)=>c.bind λr=>(fR (al r.1) (al r.1)).bind λD=>c.bind λs=>(loop (σ:=(Z×c5×aL×bt)) (ρ:=(c5×aL×bt)) (λ(f,g,i,_)=>bw (br (f<al s.1)) (bB (α:=(c5×aL×bt)) ((ar s.1 f).bind λa0=>c.bind λN=>(ar N.2.2.1 f).bind λO=>bw O ((Ac (g.1,a0,())).bind λ(E,_)=>wr i f E λa3=>Y (g,a3,())) (Y (g,i,()))) λ(I,t,_)=>Y (.inl (aM f,I,t,()))) (Y (.inr (g,i,())))) (0,H,bI D (0:Z),())).bind λ(J,l,_)=>(loop (σ:=(Z×c5×aL×bt)) (ρ:=(c5×bt)) (λ(d,q,m,_)=>bif br (d<al l) then(loop (σ:=(Z×c5×aL×bt)) (ρ:=(c5×aL×bt)) (λ(e,k,h,_)=>bif br (e<al m) then bB (α:=(c5×aL×bt)) (bB (α:=(bA×c5×aL×bt)) (c.bind λP=>(ar P.2.2.1 d).bind λQ=>bif Q==bq then c.bind λR=>
 (ar R.2.2.1 e).bind λS=>Y (S,k,h,()) else Y (bp,k,h,())) λ(G,a,b,_)=>bw G (rd b d λT=>(ba (a.2.2.2.1).length T).bind λj=>rd b e λU=>rd b d λV=>(ba (a.2.2.2.1).length V).bind λo=>rd b e λad=>((a1 a.2.2.2.1 o λw=>Y w).bind λx=>ba x.length ad).bind λC=>(a1 a.2.2.2.1 o λy=>a1 y C λz=>Y z).bind λam=>c.bind λan=>(ar an.2.2.2.1 d).bind λap=>(ar ap e).bind λav=>(zJ (am,av,())).bind λ(F,_)=>((a1 a.2.2.2.1 j λA=>Y A).bind λB=>ba B.length U).bind λp=>(((((a1 a.2.2.2.1 j λn=>(a1 n p λ_=>Y (n.set p F)).map λa4=>(a.2.2.2.1).set j a4).map λbl=>(bl,a.2.2.2.2)).map λbs=>(a.2.2.1,bs)).map λbx=>(a.2.1,bx)).map λce=>(a.1,ce)).bind λci=>Y (ci,b,())) (Y (a,b,()))) λ(K,u,_)=>Y (.inl (aM e,K,u,())) else
 Y (.inr (k,h,()))) (0,q,m,())).bind λ(L,v,_)=>Y (.inl (aM d,L,v,())) else Y (.inr (q,()))) (0,J,l,())).bind λ(M,_)=>Y (M,())
def Dm:(bv (Z×((bm aL×bt)×(bm (bv (bm (Z×de)×X))×bt)))×sO×bm (bv c5)×bt)->bv (c5×Z×bt):=λ(w,k,j,_)=>(Dw (k,j,())).bind λ(aS,B,_)=>(bif br (al aS>64) then bo else(fR (al aS) (al aS)).bind λy=>(fR (al aS) (al aS)).bind λz=>(loop (σ:=(Z×c5×bt)) (ρ:=(c5×bt)) (λ(g,b,_)=>bw (br (g<al aS)) ((fR (al aS) (al aS)).bind λx=>(ba (b.2.2.1).length g).bind λo=>((((a1 b.2.2.1 o λ_=>Y ((b.2.2.1).set o bq)).map λL=>(L,b.2.2.2)).map λM=>(b.2.1,M)).map λN=>(b.1,N)).bind λc=>(ba (c.2.2.2.1).length g).bind λp=>(((((a1 c.2.2.2.1 p λ_=>Y ((c.2.2.2.1).set p (bI x (bp,((bp,(([]:aj6),())),((0:Z),())))))).map λO=>(O,c.2.2.2.2)).map λP=>(c.2.2.1,P)).map λQ=>(c.2.1,Q)).map λR=>(c.1,R)).bind λS=>Y (.inl (aM g,S,()))) (Y (.inr (b,())))) (0,(aS,(B,(bI y bp,(bI z [],())))),())).bind λ(D,_)=>
 (loop (σ:=(Z×c5×bt)) (ρ:=(c5×bt)) (λ(d,r,_)=>bif br (d<al aS) then(loop (σ:=(Z×c5×bt)) (ρ:=(c5×bt)) (λ(e,f,_)=>bif br (e<al aS) then bB (α:=(c5×bt)) (rd f.1 d λh=>rd f.1 e λi=>bB (α:=(bA×c5×bt)) (bw (br ((if i<h then i else h)>=k.1)==bq) (Y (br ((if i<h then i else h)<k.2.1),f,())) (Y (bp,f,()))) λ(C,a,_)=>bw C ((ba (a.2.2.2.1).length d).bind λl=>rd a.1 d λI=>rd a.1 e λJ=>(xP (w,I,J,())).bind λ(A,_)=>((a1 a.2.2.2.1 l λt=>Y t).bind λu=>ba u.length e).bind λq=>(((((a1 a.2.2.2.1 l λn=>(a1 n q λ_=>Y (n.set q A)).map λT=>(a.2.2.2.1).set l T).map λU=>(U,a.2.2.2.2)).map λV=>(a.2.2.1,V)).map λad=>(a.2.1,ad)).map λam=>(a.1,am)).bind λan=>Y (an,())) (Y (a,()))) λ(E,_)=>Y (.inl (aM e,E,())) else
 Y (.inr (f,()))) (0,r,())).bind λ(F,_)=>Y (.inl (aM d,F,())) else Y (.inr (r,()))) (0,D,())).bind λ(G,_)=>(loop (σ:=(Z×c5×bt)) (ρ:=(c5×bt)) (λ(m,s,_)=>bw (br (m<al j)) ((ar j m).bind λK=>(Do (s,K,())).bind λ(v,_)=>Y (.inl (aM m,v,()))) (Y (.inr (s,())))) (0,G,())).bind λ(H,_)=>Y (H,0,()))
def HW:(de×bt)->bv ((bA×(iz×(Z×ju)))×bt):=λ(a,_)=>(u5 (a.2.1,())).bind λ(b,_)=>Y ((a.2.1.1,(b,(a.2.2.1,(bp,())))),())
def C2:(de×Z×bt)->bv df:=λ(b,c,_)=>(xn (b,())).bind λ(a,_)=>(bw a.1 (Y (9221120237041090560,())) ((pf (a,())).bind λ(aS,_)=>bw (aS==0) (Y (0,())) ((HW (a,())).bind λ(d,_)=>(zP (d,c,())).bind λ(e,_)=>Y (e,()))))
def s7:(bv c5×Z×Z×bt)->bv df:=λ(d,a,b,_)=>d.bind λe=>(ar e.2.2.2.1 a).bind λf=>(ar f b).bind λg=>(C2 (g,0,())).bind λ(c,_)=>Y (c,())
def C3:ka->bv ju:=λ(b,_)=>(loop (σ:=df) (ρ:=(bt⊕ju)) (λ(a,_)=>bw (br (a<al b)) ((ar b a).bind λe=>(C1 (e,())).bind λ(aS,_)=>bw (aS==3) (Y (.inr (.inr (bq,())))) (Y (.inl (aM a,())))) (Y (.inr (.inl ())))) (0,())).bind λc=>match c with
 |.inl _=>(Y (bp,()))
 |.inr d=>Y d
def xq:df->bv df:=λ(a,_)=>(C3 ([a],())).bind λ(b,_)=>(bw b (Y (9221120237041090560,())) (Y (Cy bD a 9223372036854775808,())))
def z9:(bv c5×Z×bt)->bv (de×Z×Z×bt):=λ(h,i,_)=>(rB (0,())).bind λ(t,_)=>h.bind λz=>(loop (σ:=(Z×Z×de×de×bt)) (ρ:=((Z×de×de×bt)⊕(de×Z×Z×bt))) (λ(b,c,d,a,_)=>bif br (c<al z.1) then(bB (α:=(Z×de×de×bt)⊕((Z×Z×de×de×bt)⊕((Z×de×de×bt)⊕(de×Z×Z×bt)))) (h.bind λA=>(ar A.2.2.1 c).bind λy=>bif !y then Y (.inl (b,d,a,())) else(s7 (h,c,i,())).bind λ(g,_)=>(ph (g,())).bind λ(n,_)=>bif !n then Y (.inr (.inr (.inr (a,b,233,())))) else bif c==i then Y (.inl (b,d,a,())) else(xq (g,())).bind λ(o,_)=>(k4 (o,())).bind λ(p,_)=>(zK (p,a,())).bind λ(q,_,_)=>bB (α:=(bA×de×de×bt)) (bw (br (q>0)==bp) (Y (br (b<0),d,a,())) (Y (bq,d,a,()))) λ(w,j,k,_)=>
 bw w ((xq (g,())).bind λ(r,_)=>(k4 (r,())).bind λ(s,_)=>Y (.inl (c,j,s,()))) (Y (.inl (b,j,k,())))) λe=>match e with
 |.inl (u,x,l,_)=>(Y (.inl (u,aM c,x,l,())))
 |.inr f=>Y f) else Y (.inr (.inl (b,d,a,())))) ((-1:Z),0,(bp,((bp,(([]:aj6),())),((0:Z),()))),t,())).bind λe=>match e with
 |.inl (v,_,m,_)=>(Y (m,v,0,()))
 |.inr f=>Y f
def z6:(bv c5×Z×bt)->bv (de×bt):=λ(d,a,_)=>(s7 (d,a,a,())).bind λ(b,_)=>(xq (b,())).bind λ(aS,_)=>(k4 (aS,())).bind λ(c,_)=>Y (c,())
def xA:(de×de×bt)->bv ju:=λ(a,b,_)=>(rB (64,())).bind λ(c,_)=>(nQ (c,a,())).bind λ(aS,_)=>(rB (41,())).bind λ(d,_)=>(nQ (d,b,())).bind λ(e,_)=>(zK (aS,e,())).bind λ(f,_,_)=>Y (br (f>=0),())
def Dp:(bv c5×bt)->bv (aL×Z×bt):=λ(b,_)=>b.bind λw=>(loop (σ:=df) (ρ:=(bt⊕(aL×Z×bt))) (λ(a,_)=>bif br (a<w.2.1) then(bB (α:=bt⊕(df⊕(bt⊕(aL×Z×bt)))) (b.bind λx=>(ar x.2.2.1 a).bind λy=>bif !y then Y (.inl ()) else(z9 (b,a,())).bind λ(f,e,i,_)=>bif i !=0 then Y (.inr (.inr (.inr ([],i,())))) else((z6 (b,a,())).bind λ(g,_)=>bB (α:=(de×de×bt)⊕(bt⊕(df⊕(bt⊕(aL×Z×bt))))) (bB (α:=(bA×de×de×bt)) ((pf (f,())).bind λ(o,_)=>bw ((o==0)==bp) ((xA (g,f,())).bind λ(p,_)=>Y (p,f,g,())) (Y (bq,f,g,()))) λ(v,l,m,_)=>bw v (Y (.inr (.inr (.inr (.inr ([a],0,())))))) (Y (.inl (l,m,())))) λc=>match c with
 |.inl (h,n,_)=>(b.bind λz=>bw (br (e>=z.2.1)) (Y (.inl ())) ((z9 (b,e,())).bind λ(j,_,k,_)=>bw (k !=0) (Y (.inr (.inr (.inr ([],k,()))))) ((nQ (n,j,())).bind λ(q,_)=>(nQ (h,h,())).bind λ(r,_)=>(xA (q,r,())).bind λ(s,_)=>bw s (Y (.inr (.inr (.inr ([a],0,()))))) ((z6 (b,e,())).bind λ(t,_)=>(xA (t,j,())).bind λ(u,_)=>bw u (Y (.inr (.inr (.inr ([e],0,()))))) (Y (.inr (.inr (.inr ([a,e],0,())))))))))
 |.inr d=>Y d)) λc=>match c with
 |.inl _=>(Y (.inl (aM a,())))
 |.inr d=>Y d) else Y (.inr (.inl ()))) (0,())).bind λc=>match c with
 |.inl _=>(Y ([],0,()))
 |.inr d=>Y d
def Aa:(bv c5×bt)->bv ka:=λ(c,_)=>c.bind λf=>(loop (σ:=(Z×aL×bt)) (ρ:=ka) (λ(a,b,_)=>bw (br (a<al f.1)) (bB (α:=ka) (c.bind λg=>(ar g.2.2.1 a).bind λh=>bw h ((cI (b.length+([a]).length)).bind λ_=>Y ((b++[a]),())) (Y (b,()))) λ(d,_)=>Y (.inl (aM a,d,()))) (Y (.inr (b,())))) (0,[],())).bind λ(e,_)=>Y (e,())
def pi:(fP×de×bt)->bv (fP×bt):=λ(c,e,_)=>(loop (σ:=(Z×fP×bt)) (ρ:=(fP×bt)) (λ(b,a,_)=>bw (br (b<al c)) ((ar c b).bind λg=>(nQ (g,e,())).bind λ(d,_)=>(cI (a.length+([d]).length)).bind λ_=>Y (.inl (aM b,(a++[d]),()))) (Y (.inr (a,())))) (0,[],())).bind λ(f,_)=>Y (f,())
def qt:(c5×aL×fP×fP×bt)->bv (c5×bt):=λ(w,b,u,v,_)=>(loop (σ:=(Z×c5×bt)) (ρ:=(c5×bt)) (λ(c,i,_)=>bif br (c<al b) then(ar b c).bind λk=>(loop (σ:=(Z×c5×bt)) (ρ:=(c5×bt)) (λ(d,a,_)=>bif br (d<al b) then(ar b d).bind λj=>(ba (a.2.2.2.1).length k).bind λe=>(ba (a.2.2.2.1).length k).bind λg=>((a1 a.2.2.2.1 g λl=>Y l).bind λm=>ba m.length j).bind λr=>(a1 a.2.2.2.1 g λn=>a1 n r λo=>Y o).bind λz=>(ar u c).bind λA=>(ar v d).bind λB=>(nQ (A,B,())).bind λ(s,_)=>(xo (z,s,())).bind λ(t,_)=>((a1 a.2.2.2.1 e λp=>Y p).bind λq=>ba q.length j).bind λh=>(((((a1 a.2.2.2.1 e λf=>(a1 f h λ_=>Y (f.set h t)).map λC=>(a.2.2.2.1).set e C).map λD=>(D,a.2.2.2.2)).map λE=>(a.2.2.1,E)).map λF=>(a.2.1,F)).map λG=>(a.1,G)).bind λH=>
 Y (.inl (aM d,H,())) else Y (.inr (a,()))) (0,i,())).bind λ(x,_)=>Y (.inl (aM c,x,())) else Y (.inr (i,()))) (0,w,())).bind λ(y,_)=>Y (y,())
def Du:df->bv (de×bt):=λ(_,_)=>(rB (0,())).bind λ(a,_)=>Y (a,())
def HZ:(bv c5×aL×bt×de×bt)->bv (eH×fP×Z×bt):=λ(q,e,_,p,_)=>(loop (σ:=(Z×eH×eH×fP×bt)) (ρ:=((eH×eH×fP×bt)⊕(eH×fP×Z×bt))) (λ(d,g,a,c,_)=>bw (br (d<al e)) ((ar e d).bind λh=>(Du (h,())).bind λ(n,_)=>(s3 (n,p,0,())).bind λ(b,_)=>(ph (b,())).bind λ(o,_)=>bw (!o) (Y (.inr (.inr (a,[],233,())))) (q.bind λr=>(ar r.1 h).bind λi=>(cI ((a.1).length+([i]).length)).bind λ_=>(cI ((a.2.1).length+([b]).length)).bind λ_=>(k4 (b,())).bind λ(f,_)=>(cI (c.length+([f]).length)).bind λ_=>Y (.inl (aM d,g,((a.1++[i]),((a.2.1++[b]),a.2.2)),(c++[f]),())))) (Y (.inr (.inl (g,a,c,()))))) (0,([],([],())),([],([],())),[],())).bind λl=>match l with
 |.inl (_,j,k,_)=>(Y (j,k,0,()))
 |.inr m=>Y m
def Dt:(Z×bv (bv c5)×ez×bt)->bv (de×bt):=λ(a,b,c,_)=>b.bind λd=>d.bind λe=>(ar e.2.2.2.1 a).bind λf=>c.bind λg=>(ar f g).bind λh=>Y (h,())
def H0:(bv c5×aL×(bv (bv c5)×ez×bt)×de×bt)->bv (eH×fP×Z×bt):=λ(r,e,f,q,_)=>(loop (σ:=(Z×eH×eH×fP×bt)) (ρ:=((eH×eH×fP×bt)⊕(eH×fP×Z×bt))) (λ(d,h,a,c,_)=>bw (br (d<al e)) ((ar e d).bind λi=>(Dt (i,f.1,f.2.1,())).bind λ(o,_)=>(s3 (o,q,0,())).bind λ(b,_)=>(ph (b,())).bind λ(p,_)=>bw (!p) (Y (.inr (.inr (a,[],233,())))) (r.bind λs=>(ar s.1 i).bind λj=>(cI ((a.1).length+([j]).length)).bind λ_=>(cI ((a.2.1).length+([b]).length)).bind λ_=>(k4 (b,())).bind λ(g,_)=>(cI (c.length+([g]).length)).bind λ_=>Y (.inl (aM d,h,((a.1++[j]),((a.2.1++[b]),a.2.2)),(c++[g]),())))) (Y (.inr (.inl (h,a,c,()))))) (0,([],([],())),([],([],())),[],())).bind λm=>match m with
 |.inl (_,k,l,_)=>(Y (k,l,0,()))
 |.inr n=>Y n
def u9:(fP×bt)->bv (de×bt):=λ(a,_)=>(ar a 0).bind λd=>(ar a 2).bind λe=>(nQ (d,e,())).bind λ(aS,_)=>(ar a 1).bind λf=>(ar a 1).bind λg=>(nQ (f,g,())).bind λ(b,_)=>(xo (aS,b,())).bind λ(c,_)=>Y (c,())
def vb:(Z×Z×bv aL×bv eH×bt)->bv df:=λ(c,d,a,b,_)=>a.bind λi=>b.bind λj=>(ar j.1 c).bind λk=>(ar i k).bind λl=>a.bind λm=>b.bind λf=>(ar f.1 d).bind λg=>(ar m g).bind λh=>(u1 (l,h,())).bind λ(e,_)=>Y (e,())
def Ie:(aL×Z×Z×(bv aL×bv eH×bt)×bt)->bv ka:=λ(i,e,h,f,_)=>(loop (σ:=(Z×aL×bt)) (ρ:=ka) (λ(d,g,_)=>bif br (d<h) then(loop (σ:=(Z×aL×bt)) (ρ:=ka) (λ(a,b,_)=>bB (α:=ka⊕((Z×aL×bt)⊕ka)) (bw (br (a>e)==bq) (rd b a λo=>rd b (ax (a-1)) λp=>(vb (o,p,f.1,f.2.1,())).bind λ(n,_)=>bw (br (n<0)) (Y (.inl (b,()))) (Y (.inr (.inr (b,()))))) (Y (.inr (.inr (b,()))))) λl=>match l with
 |.inl (c,_)=>(rd c (ax (a-1)) λq=>rd c a λr=>wr c a q λs=>wr s (ax (a-1)) r λt=>Y (.inl (ax (a-1),t,())))
 |.inr m=>Y m) (d,g,())).bind λ(j,_)=>Y (.inl (aM d,j,())) else Y (.inr (g,()))) (aM e,i,())).bind λ(k,_)=>Y (k,())
def DT:(aL×Z×Z×Z×(bv aL×bv eH×bt)×bt)->bv ka:=λ(f,d,e,h,c,_)=>(loop (σ:=(Z×Z×Z×bA×bA×aL×bt)) (ρ:=ka) (λ(a,b,_,_,_,g,_)=>bw (br (ax (b-a)<=12)) ((Ie (g,a,b,(c.1,c.2.1,()),())).bind λ(i,_)=>Y (.inr (i,()))) bo) (d,e,h,bq,bq,f,())).bind Y
def DQ:(aL×(bv aL×bv eH×bt)×bt)->bv ka:=λ(a,b,_)=>(DA (aK (al a),())).bind λ(d,_)=>(DT (a,0,al a,d,(b.1,b.2.1,()),())).bind λ(c,_)=>Y (c,())
def Dy:(bv (bv (Z×((bm aL×bt)×(bm (bv (bm (Z×de)×X))×bt)))×(aL×(aL×(aL×(bm eH×df)))))×aL×bt)->bv (fI×bt):=λ(c,i,_)=>(fR (al i) (al i)).bind λP=>c.bind λT=>c.bind λU=>c.bind λad=>c.bind λH=>(loop (σ:=Mg) (ρ:=(fI×aL×fI×bt)) (λ(f,A,s,d,_)=>bw (br (f<al H.2.1)) ((ar H.2.1 f).bind λB=>wr s B f λam=>(ar i B).bind λC=>(cI ((d.1).length+([C]).length)).bind λ_=>Y (.inl (aM f,A,am,((d.1++[C]),d.2),()))) (Y (.inr (A,s,d,())))) (0,([],([],([],([],([],([],((0:Z),()))))))),bI P (0:Z),(([]:aL),(T.2.2.1,(U.2.2.2.1,([0],(([]:aL),(([]:aL),(ad.2.2.2.2.2.1,()))))))),())).bind λ(Q,M,J,_)=>c.bind λD=>(loop (σ:=Mg) (ρ:=(fI×fI×bt)) (λ(j,x,N,q,_)=>bif br (j<al D.2.2.2.2.1) then(ar D.2.2.2.2.1 j).bind λl=>(fR (al l.1) (al l.1)).bind λw=>
 (loop (σ:=(Z×fI×aL×fI×eH×aL×bt)) (ρ:=(fI×aL×fI×eH×aL×bt)) (λ(e,y,t,r,o,m,_)=>bw (br (e<al (bI w (0:Z)))) (wr m e e λan=>Y (.inl (aM e,y,t,r,o,an,()))) (Y (.inr (y,t,r,o,m,())))) (0,x,N,q,l,bI w (0:Z),())).bind λ(R,u,K,p,I,_)=>(DQ (I,(Y u,Y p,()),())).bind λ(v,_)=>(loop (σ:=(Z×fI×aL×fI×eH×aL×bt)) (ρ:=(fI×aL×fI×bt)) (λ(k,z,h,a,g,n,_)=>bif br (k<al v) then rd n k λE=>(ar g.1 E).bind λV=>rd h V λF=>(cI ((a.2.2.2.2.1).length+([F]).length)).bind λ_=>(ar g.2.1 E).bind λG=>(cI ((a.2.2.2.2.2.1).length+([G]).length)).bind λ_=>Y (.inl (aM k,z,h,(a.1,(a.2.1,(a.2.2.1,(a.2.2.2.1,((a.2.2.2.2.1++[F]),((a.2.2.2.2.2.1++[G]),a.2.2.2.2.2.2)))))),g,n,())) else
 Y (.inr (z,h,a,()))) (0,R,u,K,p,v,())).bind λ(S,O,b,_)=>(cI ((b.2.2.2.1).length+([al b.2.2.2.2.1]).length)).bind λ_=>Y (.inl (aM j,S,O,(b.1,(b.2.1,(b.2.2.1,((b.2.2.2.1++[al b.2.2.2.2.1]),b.2.2.2.2)))),())) else Y (.inr (x,q,()))) (0,Q,M,J,())).bind λ(_,L,_)=>Y (L,())
def Dl:(sO×bt)->bv ju:=λ(a,_)=>Y (br (al a.2.2.1>64),())
def DN:(bm sO×bt×bt)->bv df:=λ(b,_,_)=>(loop (σ:=df) (ρ:=(bt⊕df)) (λ(a,_)=>bw (br (a<al b)) ((ar b a).bind λf=>(Dl (f,())).bind λ(e,_)=>bw e (Y (.inr (.inr (a,())))) (Y (.inl (aM a,())))) (Y (.inr (.inl ())))) (0,())).bind λc=>match c with
 |.inl _=>(Y ((-1:Z),()))
 |.inr d=>Y d
def DL:(bm sO×bt×bt)->bv ju:=λ(b,_,_)=>(DN (b,(),())).bind λ(a,_)=>Y (br (a>=0),())
def AG:ka->bv (de×bt):=λ(a,_)=>(ar a 0).bind λd=>(ar a 2).bind λe=>(AE (d,e,())).bind λ(aS,_)=>(ar a 1).bind λf=>(ar a 1).bind λg=>(AE (f,g,())).bind λ(b,_)=>(Eb (aS,b,())).bind λ(c,_)=>Y (c,())
def Nx:bt->bv (w8×bt):=λ_=>Y ((2,(2,([0,1,1],([1],([4607182418800017408],()))))),())
def H3:ka->bv ju:=λ(a,_)=>(fR (al a) (al a)).bind λg=>(loop (σ:=(Z×uM×bt)) (ρ:=(bt⊕ju)) (λ(e,f,_)=>bif br (e<al a) then(bB (α:=(uM×bt)⊕((Z×uM×bt)⊕(bt⊕ju))) ((ar a e).bind λd=>bB (α:=(uM×bt)⊕((uM×bt)⊕((Z×uM×bt)⊕(bt⊕ju)))) (bw (br (d<0)==bp) (bw (br (d>=al a)==bp) (rd f d λj=>bw j (Y (.inr (.inr (.inr (.inr (bp,())))))) (Y (.inl (f,())))) (Y (.inr (.inr (.inr (.inr (bp,()))))))) (Y (.inr (.inr (.inr (.inr (bp,()))))))) λb=>match b with
 |.inl (i,_)=>(wr i d bq λk=>Y (.inl (k,())))
 |.inr c=>Y c) λb=>match b with
 |.inl (h,_)=>(Y (.inl (aM e,h,())))
 |.inr c=>Y c) else Y (.inr (.inl ()))) (0,bI g bp,())).bind λb=>match b with
 |.inl _=>(Y (bq,()))
 |.inr c=>Y c
def Dv:(fI×bt)->bv (aL×bA×bt):=λ(b,_)=>(loop (σ:=(Z×Z×Z×aL×bt)) (ρ:=((Z×Z×aL×bt)⊕(aL×bA×bt))) (λ(a,h,g,e,_)=>bif br (g<al b.2.1) then(bB (α:=(Z×Z×aL×bt)⊕((Z×Z×Z×aL×bt)⊕((Z×Z×aL×bt)⊕(aL×bA×bt)))) ((ar b.2.1 g).bind λf=>bB (α:=ka⊕((Z×Z×aL×bt)⊕((Z×Z×Z×aL×bt)⊕((Z×Z×aL×bt)⊕(aL×bA×bt))))) (bB (α:=(bA×aL×bt)) (bw ((f !=1)==bq) (bw ((f !=2)==bp) (Y (br (a>=al b.1),e,())) (Y (bq,e,()))) (Y (br (a>=al b.1),e,()))) λ(q,o,_)=>bw q (Y (.inr (.inr (.inr (.inr ([],bp,())))))) (Y (.inl (o,())))) λc=>match c with
 |.inl (i,_)=>((cI (i.length+([a]).length)).bind λ_=>Y (.inl (ax (a+f),ax (h+ax (ax (2*f)-1)),(i++[a]),())))
 |.inr d=>Y d) λc=>match c with
 |.inl (k,m,p,_)=>(Y (.inl (k,m,aM g,p,())))
 |.inr d=>Y d) else Y (.inr (.inl (a,h,e,())))) (0,0,0,[],())).bind λc=>match c with
 |.inl (l,n,j,_)=>(bw ((l==al b.1)==bq) (Y (j,(n==al b.2.2.1),())) (Y (j,bp,())))
 |.inr d=>Y d
def Dn:(fI×aL×bt)->bv ju:=λ(a,j,_)=>bB (α:=bt⊕ju) ((ar a.2.2.2.1 0).bind λt=>bw ((t !=0)==bp) ((ar a.2.2.2.1 (al a.1)).bind λu=>bw (u !=al a.2.2.2.2.1) (Y (.inr (bp,()))) (Y (.inl ()))) (Y (.inr (bp,())))) λb=>match b with
 |.inl _=>((loop (σ:=df) (ρ:=(bt⊕ju)) (λ(f,_)=>bif br (f<al j) then((ar j f).bind λi=>(ar a.2.1 f).bind λm=>(loop (σ:=df) (ρ:=(bt⊕(df⊕(bt⊕ju)))) (λ(d,_)=>bif br (d<=ax (ax (i+m)-1)) then(bB (α:=bt⊕zo) (bB (α:=bt⊕(bt⊕zo)) ((ar a.2.2.2.1 d).bind λv=>(ar a.2.2.2.1 (aM d)).bind λp=>bw (br (v>p)==bp) ((ar a.2.2.2.1 (aM d)).bind λq=>bw (br (q>al a.2.2.2.2.1)) (Y (.inr (.inr (.inr (.inr (.inr (.inr (bp,())))))))) (Y (.inl ()))) (Y (.inr (.inr (.inr (.inr (.inr (.inr (bp,()))))))))) λb=>match b with
 |.inl _=>((ar a.2.2.2.1 d).bind λr=>(ar a.2.2.2.1 (aM d)).bind λs=>((g8 r).bind λk=>(g8 s).bind λl=>(hZ k l (a.2.2.2.2.1).length).map λ_=>(k,l)).bind λe=>(loop (σ:=km) (ρ:=(bt⊕(bt⊕zo))) (λ(n,g,_)=>bif br (g<al (((a.2.2.2.2.1).take e.2).drop e.1)) then(bB (α:=df⊕(km⊕(bt⊕(bt⊕zo)))) ((ar (((a.2.2.2.2.1).take e.2).drop e.1) g).bind λh=>bB (α:=bt⊕(df⊕(km⊕(bt⊕(bt⊕zo))))) (bw (br (h<=n)==bp) (bw (br (h>=al a.1)) (Y (.inr (.inr (.inr (.inr (.inr (.inr (.inr (.inr (.inr (bp,()))))))))))) (Y (.inl ()))) (Y (.inr (.inr (.inr (.inr (.inr (.inr (.inr (.inr (.inr (bp,())))))))))))) λb=>match b with
 |.inl _=>(Y (.inl (h,())))
 |.inr c=>Y c) λb=>match b with
 |.inl (o,_)=>(Y (.inl (o,aM g,())))
 |.inr c=>Y c) else Y (.inr (.inl ()))) (ax (ax (i+m)-1),0,())).bind λb=>match b with
 |.inl _=>(Y (.inl ()))
 |.inr c=>Y c)
 |.inr c=>Y c) λb=>match b with
 |.inl _=>(Y (.inl (aM d,())))
 |.inr c=>Y c) else Y (.inr (.inl ()))) (i,())).bind λb=>match b with
 |.inl _=>(Y (.inl (aM f,())))
 |.inr c=>Y c) else Y (.inr (.inl ()))) (0,())).bind λb=>match b with
 |.inl _=>(Y (bq,()))
 |.inr c=>Y c)
 |.inr c=>Y c
def z5:(fI×bt)->bv (gI×bt):=λ(c,_)=>(loop (σ:=(Z×Z×gI×bt)) (ρ:=(gI×bt)) (λ(k,d,f,_)=>bw (br (d<al c.2.1)) ((ar c.2.1 d).bind λn=>(loop (σ:=(Z×Z×gI×fP×bt)) (ρ:=(Z×gI×fP×bt)) (λ(a,j,g,b,_)=>bw (br (j<ax (ax (2*n)-1))) ((ar c.2.2.1 a).bind λo=>(k4 (o,())).bind λ(i,_)=>(cI (b.length+([i]).length)).bind λ_=>Y (.inl (aM a,aM j,g,(b++[i]),()))) (Y (.inr (a,g,b,())))) (k,0,f,[],())).bind λ(l,h,e,_)=>(cI (h.length+([e]).length)).bind λ_=>Y (.inl (l,aM d,(h++[e]),()))) (Y (.inr (f,())))) (0,0,[],())).bind λ(m,_)=>Y (m,())
def Dk:(fI×bt)->bv df:=λ(a,_)=>bB (α:=bt⊕df) (bw (br (al a.1>200)) (Y (.inr (6,()))) ((H3 (a.1,())).bind λ(n,_)=>bw (!n) (Y (.inr (90,()))) (bw ((al a.2.2.2.1 !=aM (al a.1))==bp) (bw (al a.2.2.2.2.1 !=al a.2.2.2.2.2.1) (Y (.inr (2,()))) (Y (.inl ()))) (Y (.inr (2,())))))) λb=>match b with
 |.inl _=>((Dv (a,())).bind λ(q,aS,_)=>bB (α:=bt⊕df) (bw ((!aS)==bp) (bw (br (a.2.2.2.2.2.2.1<0)==bp) ((Dn (a,q,())).bind λ(r,_)=>bw (!r) (Y (.inr (240,()))) (Y (.inl ()))) (Y (.inr (240,())))) (Y (.inr (240,())))) λb=>match b with
 |.inl _=>((loop (σ:=(Z×bm aL×bt)) (ρ:=(bt⊕df)) (λ(g,j,_)=>bif br (g<al ([a.2.2.2.2.2.1,a.2.2.1])) then(rd j g λk=>(loop (σ:=(Z×bm aL×bt)) (ρ:=((bm aL×bt)⊕((Z×bm aL×bt)⊕(bt⊕df)))) (λ(d,i,_)=>bw (br (d<al k)) ((ar k d).bind λu=>(ph (u,())).bind λ(m,_)=>bw (!m) (Y (.inr (.inr (.inr (.inr (4,())))))) (Y (.inl (aM d,i,())))) (Y (.inr (.inl (i,()))))) (0,j,())).bind λb=>match b with
 |.inl (s,_)=>(Y (.inl (aM g,s,())))
 |.inr c=>Y c) else Y (.inr (.inl ()))) (0,[a.2.2.2.2.2.1,a.2.2.1],())).bind λb=>match b with
 |.inl _=>((z5 (a,())).bind λ(h,_)=>(loop (σ:=(Z×gI×bt)) (ρ:=(bt⊕df)) (λ(e,f,_)=>bif br (e<al h) then(bB (α:=(gI×bt)⊕((Z×gI×bt)⊕(bt⊕df))) (rd f e λl=>bw ((al l==3)==bq) ((u9 (l,())).bind λ(o,_)=>(pf (o,())).bind λ(p,_)=>bw (p==0) (Y (.inr (.inr (.inr (4,()))))) (Y (.inl (f,())))) (Y (.inl (f,())))) λb=>match b with
 |.inl (t,_)=>(Y (.inl (aM e,t,())))
 |.inr c=>Y c) else Y (.inr (.inl ()))) (0,h,())).bind λb=>match b with
 |.inl _=>(Y (0,()))
 |.inr c=>Y c)
 |.inr c=>Y c)
 |.inr c=>Y c)
 |.inr c=>Y c
def z2:(fI×bt)->bv (l7×Z×bt):=λ(j,_)=>(Dk (j,())).bind λ(l,_)=>(bif l !=0 then Y (((0:Z),((0:Z),((0:Z),()))),l,()) else(z5 (j,())).bind λ(m,_)=>(loop (σ:=(Z×l7×l7×gI×bt)) (ρ:=(l7×l7×bt)) (λ(h,c,b,d,_)=>bif br (h<al m) then bB (α:=(l7×l7×gI×bt)) (rd d h λi=>(ar i 0).bind λv=>(pf (v,())).bind λ(k,_)=>bB (α:=(Z×l7×l7×gI×bt)⊕(l7×l7×gI×bt)) (bw (al i==3) ((u9 (i,())).bind λ(r,_)=>(pf (r,())).bind λ(s,_)=>bw (br (s<0)) (Y (.inr (c,(aM b.1,(b.2.1,(ax (b.2.2.1+1),b.2.2.2))),d,()))) (Y (.inl (2,c,b,d,())))) (Y (.inl (1,c,b,d,())))) λp=>match p with
 |.inl (e,f,a,g,_)=>(bw (br (k<0)) (Y (f,(ax (a.1+e),a.2),g,())) (bw (br (k>0)) (Y (f,(a.1,(a.2.1,(ax (a.2.2.1+e),a.2.2.2))),g,())) (Y (f,(a.1,(ax (a.2.1+e),a.2.2)),g,()))))
 |.inr q=>Y q) λ(t,n,u,_)=>Y (.inl (aM h,t,n,u,())) else Y (.inr (c,b,()))) (0,((0:Z),((0:Z),((0:Z),()))),((0:Z),((0:Z),((0:Z),()))),m,())).bind λ(_,o,_)=>Y (o,0,()))
def Ev:(fI×bt)->bv ju:=λ(a,_)=>bB (α:=bt⊕ju) (bw (br (a.2.2.2.2.2.2.1<0)==bp) ((Es (a.2.2.2.1,al a.1,al a.2.2.2.2.1,())).bind λ(n,_)=>bw (!n) (Y (.inr (bp,()))) (Y (.inl ()))) (Y (.inr (bp,())))) λb=>match b with
 |.inl _=>((loop (σ:=ea) (ρ:=(km⊕ju)) (λ(f,i,d,_)=>bif br (d<al a.2.1) then(bB (α:=km⊕w7) (bB (α:=bt⊕(km⊕w7)) ((ar a.2.1 d).bind λw=>bw ((w !=1)==bq) ((ar a.2.1 d).bind λx=>bw ((x !=2)==bp) ((ar a.2.1 d).bind λy=>bw (br (ax (f+y)>al a.1)) (Y (.inr (.inr (.inr (.inr (bp,())))))) (Y (.inl ()))) (Y (.inr (.inr (.inr (.inr (bp,()))))))) ((ar a.2.1 d).bind λz=>bw (br (ax (f+z)>al a.1)) (Y (.inr (.inr (.inr (.inr (bp,())))))) (Y (.inl ())))) λb=>match b with
 |.inl _=>((ar a.2.1 d).bind λh=>(loop (σ:=df) (ρ:=(bt⊕(km⊕w7))) (λ(g,_)=>bif br (g<=ax (ax (f+h)-1)) then((ar a.2.2.2.1 g).bind λo=>(loop (σ:=df) (ρ:=(bt⊕(df⊕(bt⊕(km⊕w7))))) (λ(e,_)=>(ar a.2.2.2.1 (aM g)).bind λp=>bif br (e<p) then(bB (α:=bt⊕(df⊕(bt⊕(df⊕(bt⊕(km⊕w7)))))) ((ar a.2.2.2.2.1 e).bind λq=>bw (br (q<=ax (ax (f+h)-1))==bp) ((ar a.2.2.2.2.1 e).bind λr=>bw (br (r>=al a.1)==bp) ((ar a.2.2.2.1 g).bind λs=>bw (br (e>s)==bq) ((ar a.2.2.2.2.1 e).bind λt=>(ar a.2.2.2.2.1 (ax (e-1))).bind λu=>bw (br (t<=u)) (Y (.inr (.inr (.inr (.inr (.inr (.inr (.inr (.inr (bp,())))))))))) (Y (.inl ()))) (Y (.inl ()))) (Y (.inr (.inr (.inr (.inr (.inr (.inr (.inr (.inr (bp,()))))))))))) (Y (.inr (.inr (.inr (.inr (.inr (.inr (.inr (.inr (bp,()))))))))))) λb=>match b with
 |.inl _=>(Y (.inl (aM e,())))
 |.inr c=>Y c) else Y (.inr (.inl ()))) (o,())).bind λb=>match b with
 |.inl _=>(Y (.inl (aM g,())))
 |.inr c=>Y c) else Y (.inr (.inl ()))) (f,())).bind λb=>match b with
 |.inl _=>((ar a.2.1 d).bind λv=>Y (.inl (aM (ax (ax (f+h)-1)),ax (ax (i+ax (2*v))-1),())))
 |.inr c=>Y c)
 |.inr c=>Y c) λb=>match b with
 |.inl (l,j,_)=>(Y (.inl (l,j,aM d,())))
 |.inr c=>Y c) else Y (.inr (.inl (f,i,())))) (0,0,0,())).bind λb=>match b with
 |.inl (m,k,_)=>(bw ((m==al a.1)==bq) (Y ((k==al a.2.2.1),())) (Y (bp,())))
 |.inr c=>Y c)
 |.inr c=>Y c
def AF:(fI×bt)->bv df:=λ(a,_)=>bB (α:=bt⊕df) (bw (br (al a.1>200)) (Y (.inr (6,()))) ((Er (a.1,al a.1,())).bind λ(o,_)=>bw (!o) (Y (.inr (90,()))) (bB (α:=ju) (bw ((al a.2.2.2.1 !=aM (al a.1))==bp) (Y ((al a.2.2.2.2.1 !=al a.2.2.2.2.2.1),())) (Y (bq,()))) λ(q,_)=>bw q (Y (.inr (2,()))) ((Ev (a,())).bind λ(aS,_)=>bw (!aS) (Y (.inr (240,()))) (Y (.inl ())))))) λb=>match b with
 |.inl _=>((loop (σ:=df) (ρ:=(bt⊕df)) (λ(f,_)=>bw (br (f<al a.2.2.2.2.2.1)) ((ar a.2.2.2.2.2.1 f).bind λt=>(s9 (t,())).bind λ(p,_)=>bw (!p) (Y (.inr (.inr (4,())))) (Y (.inl (aM f,())))) (Y (.inr (.inl ())))) (0,())).bind λb=>match b with
 |.inl _=>((loop (σ:=df) (ρ:=(bt⊕df)) (λ(g,_)=>bw (br (g<al a.2.2.1)) ((ar a.2.2.1 g).bind λu=>(s9 (u,())).bind λ(l,_)=>bw (!l) (Y (.inr (.inr (4,())))) (Y (.inl (aM g,())))) (Y (.inr (.inl ())))) (0,())).bind λb=>match b with
 |.inl _=>((loop (σ:=km) (ρ:=(bt⊕df)) (λ(e,d,_)=>bif br (d<al a.2.1) then(bB (α:=df⊕(km⊕(bt⊕df))) (bB (α:=bt⊕(df⊕(km⊕(bt⊕df)))) ((ar a.2.1 d).bind λr=>bw ((r==2)==bq) (((g8 e).bind λh=>(g8 (ax (e+3))).bind λi=>(hZ h i (a.2.2.1).length).map λ_=>(h,i)).bind λj=>(AG ((((a.2.2.1).take j.2).drop j.1),())).bind λ(m,_)=>(Ap (m,())).bind λ(n,_)=>bw (n==0) (Y (.inr (.inr (.inr (.inr (4,())))))) (Y (.inl ()))) (Y (.inl ()))) λb=>match b with
 |.inl _=>((ar a.2.1 d).bind λs=>Y (.inl (ax (ax (e+ax (2*s))-1),())))
 |.inr c=>Y c) λb=>match b with
 |.inl (k,_)=>(Y (.inl (k,aM d,())))
 |.inr c=>Y c) else Y (.inr (.inl ()))) (0,0,())).bind λb=>match b with
 |.inl _=>(Y (0,()))
 |.inr c=>Y c)
 |.inr c=>Y c)
 |.inr c=>Y c)
 |.inr c=>Y c
def Et:(fI×bt)->bv (gI×gI×bt):=λ(a,_)=>(loop (σ:=(Z×gI×gI×bt)) (ρ:=(gI×gI×bt)) (λ(l,d,m,_)=>bif br (l<al a.1) then(fR (al a.1) (al a.1)).bind λj=>(cI (d.length+([bI j (bp,((bp,(([]:aj6),())),((0:Z),())))]).length)).bind λ_=>(fR (al a.1) (al a.1)).bind λL=>(cI (m.length+([bI L (bp,((bp,(([]:aj6),())),((0:Z),())))]).length)).bind λ_=>(ba (d++[bI j (bp,((bp,(([]:aj6),())),((0:Z),())))]).length l).bind λs=>(xL (1,())).bind λ(d0,_)=>((a1 (d++[bI j (bp,((bp,(([]:aj6),())),((0:Z),())))]) s λT=>Y T).bind λU=>ba U.length l).bind λE=>(a1 (d++[bI j (bp,((bp,(([]:aj6),())),((0:Z),())))]) s λy=>(a1 y E λ_=>Y (y.set E d0)).map λem=>(d++[bI j (bp,((bp,(([]:aj6),())),((0:Z),())))]).set s em).bind λeq=>
 Y (.inl (aM l,eq,(m++[bI L (bp,((bp,(([]:aj6),())),((0:Z),())))]),())) else Y (.inr (d,m,()))) (0,[],[],())).bind λ(ce,P,_)=>(loop (σ:=(Z×gI×gI×bt)) (ρ:=(gI×gI×bt)) (λ(h,K,w,_)=>bw (br (h<al a.1)) ((ar a.2.2.2.1 h).bind λd1=>(loop (σ:=(Z×gI×gI×bt)) (ρ:=(gI×gI×bt)) (λ(k,i,x,_)=>(ar a.2.2.2.1 (aM h)).bind λd2=>bw (br (k<d2)) ((ar a.2.2.2.2.1 k).bind λd3=>(ba i.length d3).bind λn=>(ar a.2.2.2.2.2.1 k).bind λd4=>(pn (d4,())).bind λ(c1,_)=>((a1 i n λV=>Y V).bind λad=>ba ad.length h).bind λF=>(a1 i n λz=>(a1 z F λ_=>Y (z.set F c1)).map λex=>i.set n ex).bind λfl=>Y (.inl (aM k,fl,x,()))) (Y (.inr (i,x,())))) (d1,K,w,())).bind λ(ci,Q,_)=>Y (.inl (aM h,ci,Q,()))) (Y (.inr (K,w,())))) (0,ce,P,())).bind λ(co,R,_)=>
 (loop (σ:=(Z×Z×Z×gI×gI×bt)) (ρ:=(gI×gI×bt)) (λ(b,e,f,t,g,_)=>bif br (f<al a.2.1) then bB (α:=(Z×Z×gI×gI×bt)) ((ba g.length b).bind λo=>(ar a.2.2.1 e).bind λd5=>(pn (d5,())).bind λ(c2,_)=>((a1 g o λam=>Y am).bind λan=>ba an.length b).bind λG=>(a1 g o λA=>(a1 A G λ_=>Y (A.set G c2)).map λfn=>g.set o fn).bind λc=>bB (α:=(gI×gI×bt)) ((ar a.2.1 f).bind λd6=>bif d6==2 then(ba c.length (aM b)).bind λp=>(ba c.length b).bind λq=>(ba c.length (aM b)).bind λr=>(ar a.2.2.1 (aM e)).bind λd7=>(pn (d7,())).bind λ(dg,_)=>(ar a.2.2.1 (aM e)).bind λd8=>(pn (d8,())).bind λ(dl,_)=>(ar a.2.2.1 (ax (e+2))).bind λd9=>(pn (d9,())).bind λ(ds,_)=>((a1 c p λap=>Y ap).bind λav=>ba av.length b).bind λH=>(a1 c p λB=>(a1 B H λ_=>Y (B.set H dg)).map λfp=>c.set p fp).bind λu=>
 ((a1 u q λa0=>Y a0).bind λa3=>ba a3.length (aM b)).bind λI=>(a1 u q λC=>(a1 C I λ_=>Y (C.set I dl)).map λfr=>u.set q fr).bind λv=>((a1 v r λa4=>Y a4).bind λbl=>ba bl.length (aM b)).bind λJ=>(a1 v r λD=>(a1 D J λ_=>Y (D.set J ds)).map λfs=>v.set r fs).bind λft=>Y (t,ft,()) else Y (t,c,())) λ(cs,S,_)=>(ar a.2.1 f).bind λek=>(ar a.2.1 f).bind λel=>Y (ax (b+ek),ax (ax (e+ax (2*el))-1),cs,S,())) λ(bs,M,cv,N,_)=>Y (.inl (bs,M,aM f,cv,N,())) else Y (.inr (t,g,()))) (0,0,0,co,R,())).bind λ(bx,O,_)=>Y (bx,O,())
def Eu:(fI×bt)->bv (iL×Z×bt):=λ(a,_)=>(AF (a,())).bind λ(n,_)=>(bif n !=0 then Y (((0:Z),((0:Z),(([]:fP),()))),n,()) else bif br (al a.1>64) then Y (((0:Z),((0:Z),(([]:fP),()))),6,()) else(Et (a,())).bind λ(o,B,_)=>(Ep (al a.1,al a.1,())).bind λ(C,_)=>(loop (σ:=(Z×iL×iL×bt)) (ρ:=(iL×iL×bt)) (λ(f,q,j,_)=>bif br (f<al a.1) then(loop (σ:=(Z×iL×iL×bt)) (ρ:=(iL×iL×bt)) (λ(e,r,k,_)=>bif br (e<al a.1) then(loop (σ:=(Z×iL×iL×fP×bt)) (ρ:=(iL×iL×fP×bt)) (λ(b,s,l,t,_)=>bif br (b<al a.1) then(loop (σ:=(Z×iL×iL×fP×bt)) (ρ:=(iL×iL×fP×bt)) (λ(d,h,g,i,_)=>bB (α:=(iL×iL×fP×bt)⊕((Z×iL×iL×fP×bt)⊕(iL×iL×fP×bt))) (bif br (d<al a.1)==bq then bif br (d<=aM b) then Y (.inl (h,g,i,())) else
 Y (.inr (.inr (h,g,i,()))) else Y (.inr (.inr (h,g,i,())))) λz=>match z with
 |.inl (F,v,u,_)=>((ar o e).bind λL=>(ar L b).bind λM=>(ar B b).bind λN=>(ar N d).bind λO=>(xM (M,O,())).bind λ(D,_)=>(ar o f).bind λP=>(ar P d).bind λQ=>(xM (D,Q,())).bind λ(p,_)=>(cI (u.length+([p]).length)).bind λ_=>Y (.inl (aM d,F,v,(u++[p]),())))
 |.inr A=>Y A) ((if 0>ax (b-1) then 0 else ax (b-1)),s,l,t,())).bind λ(G,w,H,_)=>Y (.inl (aM b,G,w,H,())) else Y (.inr (s,l,t,()))) (0,r,k,[],())).bind λ(I,c,J,_)=>(Aq (J,())).bind λ(E,_)=>(ba (c.2.2.1).length (ax (ax (f*al a.1)+e))).bind λm=>((((a1 c.2.2.1 m λ_=>Y ((c.2.2.1).set m E)).map λR=>(R,c.2.2.2)).map λS=>(c.2.1,S)).map λT=>(c.1,T)).bind λU=>Y (.inl (aM e,I,U,())) else Y (.inr (r,k,()))) (0,q,j,())).bind λ(K,x,_)=>Y (.inl (aM f,K,x,())) else Y (.inr (q,j,()))) (0,((0:Z),((0:Z),([],()))),C,())).bind λ(_,y,_)=>Y (y,0,()))
def D8:(de×bt)->bv (iz×bA×bt):=λ(b,_)=>(mJ (b,())).bind λ(a,_)=>(bw a.1 (Y ((bp,(([]:aL),())),bp,())) ((ni (a.2.1,a.2.2.1,())).bind λ(c,_)=>Y (c,bq,())))
def xG:(gI×bt)->bv (bm (bm iz)×bt):=λ(a,_)=>(loop (σ:=km) (ρ:=df) (λ(h,b,_)=>bw (br (b<al a)) ((loop (σ:=km) (ρ:=df) (λ(e,d,_)=>(ar a b).bind λu=>bw (br (d<al u)) (bB (α:=df) ((ar a b).bind λv=>(ar v d).bind λw=>(Ap (w,())).bind λ(s,_)=>bw (s !=0) ((ar a b).bind λx=>(ar x d).bind λy=>(mJ (y,())).bind λ(l,_)=>Y ((if l.2.2.1<e then l.2.2.1 else e),())) (Y (e,()))) λ(o,_)=>Y (.inl (o,aM d,()))) (Y (.inr (e,())))) (h,0,())).bind λ(p,_)=>Y (.inl (p,aM b,()))) (Y (.inr (h,())))) (0,0,())).bind λ(q,_)=>(loop (σ:=(Z×bm (bm iz)×bt)) (ρ:=(bm (bm iz)×bt)) (λ(c,i,_)=>bif br (c<al a) then(loop (σ:=(Z×bm (bm iz)×bm iz×bt)) (ρ:=(bm (bm iz)×bm iz×bt)) (λ(f,j,g,_)=>
 (ar a c).bind λz=>bw (br (f<al z)) ((ar a c).bind λA=>(ar A f).bind λB=>(Ea (B,ax (0-q),())).bind λ(t,_)=>(D8 (t,())).bind λ(m,_,_)=>(cI (g.length+([m]).length)).bind λ_=>Y (.inl (aM f,j,(g++[m]),()))) (Y (.inr (j,g,())))) (0,i,[],())).bind λ(k,n,_)=>(cI (k.length+([n]).length)).bind λ_=>Y (.inl (aM c,(k++[n]),())) else Y (.inr (i,()))) (0,[],())).bind λ(r,_)=>Y (r,())
def Eh:(bm (bm iz)×bt)->bv (h6×bt):=λ(c,_)=>(loop (σ:=(Z×h6×bt)) (ρ:=(h6×bt)) (λ(a,f,_)=>bw (br (a<al c)) ((loop (σ:=(Z×h6×bm jC×bt)) (ρ:=(h6×bm jC×bt)) (λ(b,g,d,_)=>(ar c a).bind λn=>bw (br (b<al n)) ((ar c a).bind λl=>(ar l b).bind λm=>(pk (m,())).bind λ(h,_)=>(rE (1,())).bind λ(i,_)=>(cI (d.length+([(h,(i,()))]).length)).bind λ_=>Y (.inl (aM b,g,(d++[(h,(i,()))]),()))) (Y (.inr (g,d,())))) (0,f,[],())).bind λ(e,j,_)=>(cI (e.length+([j]).length)).bind λ_=>Y (.inl (aM a,(e++[j]),()))) (Y (.inr (f,())))) (0,[],())).bind λ(k,_)=>Y (k,())
def Av:(jC×bt)->bv ju:=λ(b,_)=>(k5 (b.1,())).bind λ(a,_)=>Y ((a==0),())
def Ei:(h6×aL×bt)->bv km:=λ(g,a,_)=>(loop (σ:=df) (ρ:=(bt⊕km)) (λ(b,_)=>bw (br (b<al a)) ((ar a b).bind λq=>(ar g q).bind λr=>(ar a b).bind λs=>(ar r s).bind λt=>(Av (t,())).bind λ(i,_)=>bw (!i) ((ar a b).bind λu=>(ar a b).bind λj=>Y (.inr (.inr (u,j,())))) (Y (.inl (aM b,())))) (Y (.inr (.inl ())))) (0,())).bind λd=>match d with
 |.inl _=>((loop (σ:=df) (ρ:=(bt⊕km)) (λ(c,_)=>bif br (c<al a) then((loop (σ:=df) (ρ:=(bt⊕(df⊕(bt⊕km)))) (λ(f,_)=>bw (br (f<c)) ((ar a c).bind λk=>(ar g k).bind λl=>(ar a f).bind λm=>(ar l m).bind λn=>(Av (n,())).bind λ(h,_)=>bw (!h) ((ar a c).bind λo=>(ar a f).bind λp=>Y (.inr (.inr (.inr (.inr (o,p,())))))) (Y (.inl (aM f,())))) (Y (.inr (.inl ())))) (0,())).bind λd=>match d with
 |.inl _=>(Y (.inl (aM c,())))
 |.inr e=>Y e) else Y (.inr (.inl ()))) (0,())).bind λd=>match d with
 |.inl _=>(Y ((-1:Z),(-1:Z),()))
 |.inr e=>Y e)
 |.inr e=>Y e
def D0:(iz×iz×bt)->bv (iz×bt):=λ(d,e,_)=>(rD (d,())).bind λ(g,_)=>(rD (e,())).bind λ(aS,_)=>(loop (σ:=(iz×iz×iz×bt)) (ρ:=(iz×iz×bt)) (λ(b,c,a,_)=>(k5 (a,())).bind λ(h,_)=>bw (h !=0) ((vi (c,a,())).bind λ(_,f,_)=>Y (.inl (b,a,f,()))) (Y (.inr (b,c,())))) ((bp,([],())),g,aS,())).bind λ(_,i,_)=>Y (i,())
def Al:(iz×iz×bt)->bv (iz×bA×bt):=λ(a,b,_)=>(vi (a,b,())).bind λ(c,aS,_)=>(k5 (aS,())).bind λ(d,_)=>(bw (d !=0) (Y ((bp,(([]:aL),())),bp,())) (Y (c,bq,())))
def Au:(iz×iz×bt)->bv (jC×bt):=λ(c,a,_)=>(D0 (c,a,())).bind λ(d,_)=>bB (α:=(jC×iz×bt)) ((k5 (a,())).bind λ(aS,_)=>bw (br (aS<0)) ((xH (d,())).bind λ(f,_)=>Y (((bp,([],())),((bp,([],())),())),f,())) (Y (((bp,([],())),((bp,([],())),())),d,()))) λ(_,b,_)=>(Al (c,b,())).bind λ(g,_,_)=>(Al (a,b,())).bind λ(e,_,_)=>Y ((g,(e,())),())
def ta:(jC×jC×jC×jC×bt)->bv (jC×bt):=λ(b,d,e,c,_)=>(pj (d.1,e.1,())).bind λ(k,_)=>(pj (k,c.2.1,())).bind λ(l,_)=>(pj (d.2.1,e.2.1,())).bind λ(m,_)=>(pj (m,c.1,())).bind λ(n,_)=>(Au (l,n,())).bind λ(a,_)=>(pj (b.1,a.2.1,())).bind λ(f,_)=>(pj (a.1,b.2.1,())).bind λ(g,_)=>(xI (f,g,())).bind λ(h,_)=>(pj (b.2.1,a.2.1,())).bind λ(i,_)=>(Au (h,i,())).bind λ(j,_)=>Y (j,())
def At:(bm (bm iz)×bt)->bv ea:=λ(R,_)=>(Eh (R,())).bind λ(ge,_)=>(loop (σ:=(Z×h6×aL×bt)) (ρ:=(h6×aL×bt)) (λ(p,C,w,_)=>bw (br (p<al R)) ((cI (w.length+([p]).length)).bind λ_=>Y (.inl (aM p,C,(w++[p]),()))) (Y (.inr (C,w,())))) (0,ge,[],())).bind λ(an,f4,_)=>(loop (σ:=(Z×Z×h6×aL×bt)) (ρ:=(Z×Z×aL×bt)) (λ(i,j,D,g,_)=>bif br (al g>0) then(Ei (D,g,())).bind λ(b,d,_)=>bif br (b<0) then Y (.inr (i,j,g,())) else(loop (σ:=(Z×h6×aL×aL×bt)) (ρ:=(h6×aL×bt)) (λ(f,s,h,y,_)=>bif br (f<al h) then bB (α:=(h6×aL×aL×bt)) (bB (α:=(bA×h6×aL×aL×bt)) (rd h f λhw=>bw ((hw !=b)==bq) (rd h f λib=>Y ((ib !=d),s,h,y,())) (Y (bp,s,h,y,()))) λ(hi,E,x,z,_)=>
 bw hi (rd x f λU=>(cI (z.length+([U]).length)).bind λ_=>Y (E,x,(z++[U]),())) (Y (E,x,z,()))) λ(ap,f5,gt,_)=>Y (.inl (aM f,ap,f5,gt,())) else Y (.inr (s,y,()))) (0,D,g,[],())).bind λ(c,A,_)=>bB (α:=(Z×Z×h6×aL×bt)) (bw (b==d) ((ba c.length b).bind λN=>((a1 c N λd3=>Y d3).bind λd4=>ba d4.length b).bind λfT=>(a1 c N λd5=>a1 d5 fT λd6=>Y d6.1).bind λic=>(k5 (ic,())).bind λ(gf,_)=>bw (br (gf<0)) (Y (aM i,j,c,A,())) (Y (i,aM j,c,A,()))) (Y (aM i,aM j,c,A,()))) λ(f7,f9,o,hc,_)=>(ba o.length b).bind λO=>((a1 o O λd7=>Y d7).bind λd8=>ba d8.length d).bind λf0=>(a1 o O λd9=>a1 d9 f0 λek=>Y ek).bind λid=>(loop (σ:=(Z×h6×aL×jC×bt)) (ρ:=(h6×aL×bt)) (λ(q,F,B,a4,_)=>
 bif br (q<al B) then(loop (σ:=(Z×h6×aL×jC×bt)) (ρ:=(h6×aL×jC×bt)) (λ(t,a,k,e,_)=>bif br (t<=q) then bB (α:=(h6×aL×jC×bt)) (rd k q λl=>rd k t λm=>(ba a.length l).bind λP=>((a1 a P λel=>Y el).bind λem=>ba em.length m).bind λf1=>(a1 a P λeq=>a1 eq f1 λex=>Y ex).bind λii=>(ba a.length l).bind λQ=>((a1 a Q λfl=>Y fl).bind λfn=>ba fn.length b).bind λf2=>(a1 a Q λfp=>a1 fp f2 λfr=>Y fr).bind λio=>(ba a.length d).bind λI=>((a1 a I λbl=>Y bl).bind λbs=>ba bs.length m).bind λfs=>(a1 a I λbx=>a1 bx fs λce=>Y ce).bind λhr=>(ta (ii,io,hr,e,())).bind λ(S,_)=>bB (α:=(h6×aL×jC×jC×bt)) (bif b !=d then(ba a.length l).bind λJ=>((a1 a J λci=>Y ci).bind λco=>ba co.length d).bind λft=>
 (a1 a J λcs=>a1 cs ft λcv=>Y cv).bind λhs=>(ba a.length b).bind λK=>((a1 a K λc1=>Y c1).bind λc2=>ba c2.length m).bind λfz=>(a1 a K λdg=>a1 dg fz λdl=>Y dl).bind λhv=>(ta (S,hs,hv,e,())).bind λ(gc,_)=>Y (a,k,e,gc,()) else Y (a,k,e,S,())) λ(n,gi,av,T,_)=>(ba n.length l).bind λu=>((a1 n u λds=>Y ds).bind λd0=>ba d0.length m).bind λL=>(a1 n u λG=>(a1 G L λ_=>Y (G.set L T)).map λis=>n.set u is).bind λr=>(ba r.length m).bind λv=>((a1 r v λd1=>Y d1).bind λd2=>ba d2.length l).bind λM=>(a1 r v λH=>(a1 H M λ_=>Y (H.set M T)).map λix=>r.set v ix).bind λi0=>Y (i0,gi,av,())) λ(V,gl,a0,_)=>Y (.inl (aM t,V,gl,a0,())) else
 Y (.inr (a,k,e,()))) (0,F,B,a4,())).bind λ(ad,go,a3,_)=>Y (.inl (aM q,ad,go,a3,())) else Y (.inr (F,B,()))) (0,o,hc,id,())).bind λ(am,gs,_)=>Y (.inl (f7,f9,am,gs,())) else Y (.inr (i,j,g,()))) (0,0,an,f4,())).bind λ(f6,f8,f3,_)=>Y (f6,al f3,f8,())
def Ds:(c5×Z×Z×bt)->bv (c5×bm eH×Z×bt):=λ(a,j,k,_)=>(Aa (Y a,())).bind λ(b,_)=>(k4 (k,())).bind λ(c,_)=>(pf (c,())).bind λ(l,_)=>(bw (l==0) ((rB (1,())).bind λ(m,_)=>(HZ (Y a,b,(),m,())).bind λ(n,d,e,_)=>bw (e !=0) (Y (a,[],e,())) ((pi (d,c,())).bind λ(o,_)=>(qt (a,b,o,d,())).bind λ(h,_)=>Y (h,[n],0,()))) ((H0 (Y a,b,(Y (Y a),Y j,()),c,())).bind λ(p,f,g,_)=>bw (g !=0) (Y (a,[],g,())) ((pi (f,c,())).bind λ(q,_)=>(qt (a,b,q,f,())).bind λ(i,_)=>Y (i,[p],0,()))))
def z8:(Z×Z×Z×de×de×bv (bv c5)×bt)->bv (de×bt):=λ(a,c,d,h,i,b,_)=>b.bind λo=>o.bind λp=>(ar p.2.2.2.1 a).bind λq=>(ar q c).bind λj=>(nQ (j,h,())).bind λ(e,_)=>b.bind λk=>k.bind λl=>(ar l.2.2.2.1 a).bind λm=>(ar m d).bind λn=>(nQ (n,i,())).bind λ(f,_)=>(xo (e,f,())).bind λ(g,_)=>Y (g,())
def Dq:(Z×bv (bv (bv c5)×bt)×ez×ez×bv fP×bt)->bv (de×bt):=λ(b,c,d,e,a,_)=>c.bind λj=>d.bind λk=>e.bind λl=>a.bind λm=>(ar m 2).bind λg=>a.bind λh=>(ar h 1).bind λi=>(z8 (b,k,l,g,i,j.1,())).bind λ(f,_)=>Y (f,())
def H1:(bv c5×aL×(bv (bv (bv c5)×bt)×ez×ez×bv fP×bt)×de×bt)->bv (eH×fP×Z×bt):=λ(r,f,b,q,_)=>(loop (σ:=(Z×eH×eH×fP×bt)) (ρ:=((eH×eH×fP×bt)⊕(eH×fP×Z×bt))) (λ(e,h,a,d,_)=>bw (br (e<al f)) ((ar f e).bind λi=>(Dq (i,b.1,b.2.1,b.2.2.1,b.2.2.2.1,())).bind λ(o,_)=>(s3 (o,q,0,())).bind λ(c,_)=>(ph (c,())).bind λ(p,_)=>bw (!p) (Y (.inr (.inr (a,[],233,())))) (r.bind λs=>(ar s.1 i).bind λj=>(cI ((a.1).length+([j]).length)).bind λ_=>(cI ((a.2.1).length+([c]).length)).bind λ_=>(k4 (c,())).bind λ(g,_)=>(cI (d.length+([g]).length)).bind λ_=>Y (.inl (aM e,h,((a.1++[j]),((a.2.1++[c]),a.2.2)),(d++[g]),())))) (Y (.inr (.inl (h,a,d,()))))) (0,([],([],())),([],([],())),[],())).bind λm=>match m with
 |.inl (_,k,l,_)=>(Y (k,l,0,()))
 |.inr n=>Y n
def Dr:(Z×bv (bv (bv c5)×bt)×ez×ez×bv fP×bt)->bv (de×bt):=λ(b,c,d,e,a,_)=>c.bind λj=>d.bind λk=>e.bind λl=>a.bind λm=>(ar m 0).bind λg=>a.bind λh=>(ar h 1).bind λi=>(z8 (b,k,l,g,i,j.1,())).bind λ(f,_)=>Y (f,())
def H2:(bv c5×aL×(bv (bv (bv c5)×bt)×ez×ez×bv fP×bt)×de×bt)->bv (eH×fP×Z×bt):=λ(r,f,b,q,_)=>(loop (σ:=(Z×eH×eH×fP×bt)) (ρ:=((eH×eH×fP×bt)⊕(eH×fP×Z×bt))) (λ(e,h,a,d,_)=>bw (br (e<al f)) ((ar f e).bind λi=>(Dr (i,b.1,b.2.1,b.2.2.1,b.2.2.2.1,())).bind λ(o,_)=>(s3 (o,q,0,())).bind λ(c,_)=>(ph (c,())).bind λ(p,_)=>bw (!p) (Y (.inr (.inr (a,[],233,())))) (r.bind λs=>(ar s.1 i).bind λj=>(cI ((a.1).length+([j]).length)).bind λ_=>(cI ((a.2.1).length+([c]).length)).bind λ_=>(k4 (c,())).bind λ(g,_)=>(cI (d.length+([g]).length)).bind λ_=>Y (.inl (aM e,h,((a.1++[j]),((a.2.1++[c]),a.2.2)),(d++[g]),())))) (Y (.inr (.inl (h,a,d,()))))) (0,([],([],())),([],([],())),[],())).bind λm=>match m with
 |.inl (_,k,l,_)=>(Y (k,l,0,()))
 |.inr n=>Y n
def z7:(c5×Z×Z×aL×bt)->bv (c5×bm eH×Z×bt):=λ(a,i,m,h,_)=>(Aa (Y a,())).bind λ(e,_)=>(ar h 0).bind λx=>(k4 (x,())).bind λ(b,_)=>(ar h 1).bind λy=>(k4 (y,())).bind λ(c,_)=>(ar h 2).bind λz=>(k4 (z,())).bind λ(d,_)=>(u9 ([b,c,d],())).bind λ(j,_)=>(H1 (Y a,e,(Y (Y (Y a),()),Y i,Y m,Y [b,c,d],()),j,())).bind λ(r,f,k,_)=>(bif k !=0 then Y (a,[],k,()) else(H2 (Y a,e,(Y (Y (Y a),()),Y m,Y i,Y [b,c,d],()),j,())).bind λ(s,g,l,_)=>bif l !=0 then Y (a,[],l,()) else(ar [b,c,d] 0).bind λA=>(pi (f,A,())).bind λ(t,_)=>(qt (a,e,t,f,())).bind λ(n,_)=>(ar [b,c,d] 1).bind λB=>(pi (f,B,())).bind λ(u,_)=>
 (qt (n,e,u,g,())).bind λ(o,_)=>(ar [b,c,d] 1).bind λC=>(pi (g,C,())).bind λ(v,_)=>(qt (o,e,v,f,())).bind λ(p,_)=>(ar [b,c,d] 2).bind λD=>(pi (g,D,())).bind λ(w,_)=>(qt (p,e,w,g,())).bind λ(q,_)=>Y (q,[r,s],0,()))
def Dx:((bv (Z×((bm aL×bt)×(bm (bv (bm (Z×de)×X))×bt)))×(aL×(aL×(aL×(bm eH×df)))))×c5×aL×bt)->bv ((bv (Z×((bm aL×bt)×(bm (bv (bm (Z×de)×X))×bt)))×(aL×(aL×(aL×(bm eH×df)))))×c5×Z×bt):=λ(C,D,a,_)=>(loop (σ:=(Z×(bv (Z×((bm aL×bt)×(bm (bv (bm (Z×de)×X))×bt)))×(aL×(aL×(aL×(bm eH×df)))))×c5×aL×bt)) (ρ:=((bv (Z×((bm aL×bt)×(bm (bv (bm (Z×de)×X))×bt)))×(aL×(aL×(aL×(bm eH×df)))))×c5×aL×bt)) (λ(d,o,r,l,_)=>bif br (d<al a) then(loop (σ:=(Z×(bv (Z×((bm aL×bt)×(bm (bv (bm (Z×de)×X))×bt)))×(aL×(aL×(aL×(bm eH×df)))))×c5×aL×bt)) (ρ:=((bv (Z×((bm aL×bt)×(bm (bv (bm (Z×de)×X))×bt)))×(aL×(aL×(aL×(bm eH×df)))))×c5×aL×bt)) (λ(i,p,j,h,_)=>bif br (i<aM d) then(ar a d).bind λF=>
 (ar a i).bind λG=>(s7 (Y j,F,G,())).bind λ(n,_)=>(cI (h.length+([n]).length)).bind λ_=>Y (.inl (aM i,p,j,(h++[n]),())) else Y (.inr (p,j,h,()))) (0,o,r,l,())).bind λ(g,e,u,_)=>(ar a d).bind λH=>(ba (e.2.2.1).length H).bind λm=>((((a1 e.2.2.1 m λ_=>Y ((e.2.2.1).set m bp)).map λN=>(N,e.2.2.2)).map λO=>(e.2.1,O)).map λP=>(e.1,P)).bind λt=>(ar a d).bind λI=>rd t.1 I λs=>(cI ((g.2.1).length+([s]).length)).bind λ_=>Y (.inl (aM d,(g.1,((g.2.1++[s]),g.2.2)),t,u,())) else Y (.inr (o,r,l,()))) (0,C,D,[],())).bind λ(b,q,f,_)=>(cI ((b.2.2.1).length+([al a]).length)).bind λ_=>(cI ((b.2.2.2.1).length+f.length)).bind λ_=>bB (α:=(Z×bm eH×(bv (Z×((bm aL×bt)×(bm (bv (bm (Z×de)×X))×bt)))×(aL×(aL×(aL×(bm eH×df)))))×c5×bt)) (bif al a==1 then
 (ar a 0).bind λJ=>rd f 0 λK=>(Ds (q,J,K,())).bind λ(w,y,z,_)=>Y (z,y,(b.1,(b.2.1,((b.2.2.1++[al a]),((b.2.2.2.1++f),b.2.2.2.2)))),w,()) else(ar a 0).bind λL=>(ar a 1).bind λM=>(z7 (q,L,M,f,())).bind λ(x,A,B,_)=>Y (B,A,(b.1,(b.2.1,((b.2.2.1++[al a]),((b.2.2.2.1++f),b.2.2.2.2)))),x,())) λ(v,k,c,E,_)=>(cI ((c.2.2.2.2.1).length+k.length)).bind λ_=>Y ((c.1,(c.2.1,(c.2.2.1,(c.2.2.2.1,((c.2.2.2.2.1++k),c.2.2.2.2.2))))),E,v,())
def Dz:((bv (Z×((bm aL×bt)×(bm (bv (bm (Z×de)×X))×bt)))×(aL×(aL×(aL×(bm eH×df)))))×c5×bt)->bv ((bv (Z×((bm aL×bt)×(bm (bv (bm (Z×de)×X))×bt)))×(aL×(aL×(aL×(bm eH×df)))))×c5×Z×bt):=λ(n,s,_)=>(loop (σ:=((bv (Z×((bm aL×bt)×(bm (bv (bm (Z×de)×X))×bt)))×(aL×(aL×(aL×(bm eH×df)))))×c5×bt)) (ρ:=(((bv (Z×((bm aL×bt)×(bm (bv (bm (Z×de)×X))×bt)))×(aL×(aL×(aL×(bm eH×df)))))×c5×bt)⊕((bv (Z×((bm aL×bt)×(bm (bv (bm (Z×de)×X))×bt)))×(aL×(aL×(aL×(bm eH×df)))))×c5×Z×bt))) (λ(d,c,_)=>(Dp (Y c,())).bind λ(h,i,_)=>bw (i !=0) (Y (.inr (.inr (d,c,i,())))) (bw (al h==0) (Y (.inr (.inl (d,c,())))) ((Dx (d,c,h,())).bind λ(f,g,j,_)=>bw (j !=0) (Y (.inr (.inr (f,g,j,())))) (Y (.inl (f,g,())))))) (n,s,())).bind λl=>match l with
 |.inl (o,k,_)=>((loop (σ:=(Z×(bv (Z×((bm aL×bt)×(bm (bv (bm (Z×de)×X))×bt)))×(aL×(aL×(aL×(bm eH×df)))))×c5×bt)) (ρ:=((bv (Z×((bm aL×bt)×(bm (bv (bm (Z×de)×X))×bt)))×(aL×(aL×(aL×(bm eH×df)))))×c5×bt)) (λ(e,a,b,_)=>bw (br (e<k.2.1)) (bB (α:=((bv (Z×((bm aL×bt)×(bm (bv (bm (Z×de)×X))×bt)))×(aL×(aL×(aL×(bm eH×df)))))×c5×bt)) (rd b.2.2.1 e λu=>bw u (Y ((a.1,(a.2.1,(a.2.2.1,(a.2.2.2.1,(a.2.2.2.2.1,(aM a.2.2.2.2.2.1,a.2.2.2.2.2.2)))))),b,())) (Y (a,b,()))) λ(p,r,_)=>Y (.inl (aM e,p,r,()))) (Y (.inr (a,b,())))) (0,o,k,())).bind λ(q,t,_)=>Y (q,t,0,()))
 |.inr m=>Y m
def s6:(w8×aL×bm sO×bt)->bv (fI×Z×bt):=λ(x,o,b,_)=>(td (x,o,())).bind λ(i,p,_)=>(bif p !=0 then Y ((([]:aL),(([]:aL),(([]:aL),(([]:aL),(([]:aL),(([]:aL),((0:Z),()))))))),p,()) else i.bind λM=>(vp (M.2.1,b,())).bind λ(q,_)=>bif q !=0 then Y ((([]:aL),(([]:aL),(([]:aL),(([]:aL),(([]:aL),(([]:aL),((0:Z),()))))))),q,()) else(DL (b,(),())).bind λ(E,_)=>bif E then Y ((([]:aL),(([]:aL),(([]:aL),(([]:aL),(([]:aL),(([]:aL),((0:Z),()))))))),6,()) else((fR (al b) (al b)).bind λD=>(loop (σ:=(Z×fI×(bv (Z×((bm aL×bt)×(bm (bv (bm (Z×de)×X))×bt)))×(aL×(aL×(aL×(bm eH×df)))))×bm (bm (bv c5))×bt)) (ρ:=((fI×(bv (Z×((bm aL×bt)×(bm (bv (bm (Z×de)×X))×bt)))×(aL×(aL×(aL×(bm eH×df)))))×bt)⊕(fI×Z×bt))) (λ(d,k,j,e,_)=>
 bif br (d<al b) then(bB (α:=(fI×(bv (Z×((bm aL×bt)×(bm (bv (bm (Z×de)×X))×bt)))×(aL×(aL×(aL×(bm eH×df)))))×bm (bm (bv c5))×bt)⊕((Z×fI×(bv (Z×((bm aL×bt)×(bm (bv (bm (Z×de)×X))×bt)))×(aL×(aL×(aL×(bm eH×df)))))×bm (bm (bv c5))×bt)⊕((fI×(bv (Z×((bm aL×bt)×(bm (bv (bm (Z×de)×X))×bt)))×(aL×(aL×(aL×(bm eH×df)))))×bt)⊕(fI×Z×bt)))) ((ar b d).bind λl=>rd e d λw=>(Dm (i,l,w,())).bind λ(r,s,_)=>bB (α:=(Z×fI×(bv (Z×((bm aL×bt)×(bm (bv (bm (Z×de)×X))×bt)))×(aL×(aL×(aL×(bm eH×df)))))×bm (bm (bv c5))×sO×c5×bt)) (bw (s==0) ((Dz (j,r,())).bind λ(B,C,F,_)=>Y (F,k,B,e,l,C,())) (Y (s,k,j,e,l,r,()))) λ(m,u,t,a,f,v,_)=>bif m !=0 then
 Y (.inr (.inr (.inr ((([]:aL),(([]:aL),(([]:aL),(([]:aL),(([]:aL),(([]:aL),((0:Z),()))))))),m,())))) else bw (br (f.2.2.2.1>=0)) ((ba a.length f.2.2.2.1).bind λn=>(a1 a n λz=>Y z).bind λK=>(cI (K.length+([Y v]).length)).bind λ_=>(ba a.length f.2.2.2.1).bind λc=>bw (bH n c&&bq) ((a1 a c λA=>Y A).bind λL=>(a1 a c λ_=>Y (a.set c (L++[Y v]))).bind λN=>Y (.inl (u,t,N,()))) bo) (Y (.inl (u,t,a,())))) λg=>match g with
 |.inl (J,H,y,_)=>(Y (.inl (aM d,J,H,y,())))
 |.inr h=>Y h) else Y (.inr (.inl (k,j,())))) (0,([],([],([],([],([],([],((0:Z),()))))))),(i,(([]:aL),(([]:aL),(([]:aL),(([]:bm eH),((0:Z),())))))),bI D [],())).bind λg=>match g with
 |.inl (_,I,_)=>((Dy (Y I,o,())).bind λ(G,_)=>Y (G,0,()))
 |.inr h=>Y h))
def Ai:bt->bv ju:=λ_=>(Nx ()).bind λ(b,_)=>(s6 (b,[0,1],[(0,(2,([0,1],((-1:Z),()))))],())).bind λ(a,c,_)=>(z2 (a,())).bind λ(aS,d,_)=>(bw ((c==0)==bq) (bw ((d==0)==bq) ((DX (a.2.1,[2],())).bind λ(e,_)=>bw (e==bq) (Y (((aS.1==1)&&((aS.2.1==(0:Z))&&((aS.2.2.1==1)&&bq))),())) (Y (bp,()))) (Y (bp,()))) (Y (bp,())))
def Ih:(aL×Z×Z×bt)->bv ju:=λ(L,s,N,_)=>(qu (s,5,())).bind λ(z,_)=>(qu (N,3,())).bind λ(A,_)=>(DZ (L,z,A,bp,())).bind λ(j,B,C,_)=>(s6 (j,B,C,())).bind λ(b,D,_)=>(bif D !=0 then(Ai ()).bind λ(E,_)=>Y (E,()) else((z2 (b,())).bind λ(F,G,_)=>bB (α:=(fI×l7×bt)⊕ju) (bw ((G !=0)==bp) ((AF (b,())).bind λ(H,_)=>bw ((H !=0)==bp) (bw (al b.1 !=j.1) (Y (.inr (bp,()))) (Y (.inl (b,F,())))) (Y (.inr (bp,())))) (Y (.inr (bp,())))) λu=>match u with
 |.inl (p,q,_)=>((Eu (p,())).bind λ(I,_,_)=>(loop (σ:=(Z×l7×iL×gI×bt)) (ρ:=(l7×gI×bt)) (λ(e,g,i,l,_)=>bw (br (e<i.1)) ((loop (σ:=(Z×l7×iL×gI×fP×bt)) (ρ:=(l7×iL×gI×fP×bt)) (λ(c,h,a,m,f,_)=>bw (br (c<a.1)) ((ar a.2.2.1 (ax (ax (c*a.1)+e))).bind λo=>(cI (f.length+([o]).length)).bind λ_=>Y (.inl (aM c,h,a,m,(f++[o]),()))) (Y (.inr (h,a,m,f,())))) (0,g,i,l,[],())).bind λ(r,t,n,k,_)=>(cI (n.length+([k]).length)).bind λ_=>Y (.inl (aM e,r,t,(n++[k]),()))) (Y (.inr (g,l,())))) (0,q,I,[],())).bind λ(d,M,_)=>(xG (M,())).bind λ(J,_)=>(At (J,())).bind λ(K,w,x,_)=>bif ((d.1==K)&&((d.2.1==w)&&((d.2.2.1==x)&&bq)))==bq then(Ai ()).bind λ(y,_)=>
 Y (y,()) else Y (bp,()))
 |.inr v=>Y v))
end Go.jy
section
namespace Go.Proofs
open Go.RowKit Go.Shelf Go.Sort
attribute [local go_sem] Oper.semAt_some
def Tryz.YR:Go.Shelf.Ren:=⟨λ|20=>295|n=>n,λ|22=>23|3=>3|4=>4|0=>0|n=>n,λ|n=>n⟩
def Tryz.Pf:Lays2.n20 cm Tryz.YR where
 mixed:=by kernel_rfl
 f20:=Tryz.func295.trans (b6 Y (by kernel_rfl))
 t0:=Tryz.underlying0
 a0:=Tryz.isAgg0
 z0:=Tryz.sizeOf0
 v0:=Tryz.zeroValue0
 t3:=Tryz.underlying3
 a3:=Tryz.isAgg3
 z3:=Tryz.sizeOf3
 v3:=Tryz.zeroValue3
 t4:=Tryz.underlying4
 a4:=Tryz.isAgg4
 z4:=Tryz.sizeOf4
 v4:=Tryz.zeroValue4
 t22:=aoT
 a22:=Tryz.isAgg23
 z22:=Tryz.sizeOf23
 v22:=Tryz.zeroValue23
 i3:=by kernel_rfl
namespace Ma
def mZ {a:Type} (b:X->a) (c:X):bm a:=(bJ c).map b
def Tx {c:Type} (a:X->c) (b:X):mZ a (b+1)=mZ a b++[a b]:=by simp[mZ,jB]
def agh {c:Type} (b:X->c) (a:X):(mZ b a).length=a:=by simp[mZ]
def agf (a:aj6):mZ (λc=>a[c]?.getD 0) a.length=a:=by
 apply amo
 ·simp[mZ]
 intro e d b;simp[mZ,b]
set_option maxRecDepth 100000 in
set_option maxHeartbeats 2000000 in
def ago (j:ala) (m:X) (A:j.fn 317) (K:j.round=bo) (T:1<=m) (v q n h k b x:X) (g:aj6) (U:b*8<=140737488351232) (F:h<n) (J r:aj6->bC->Prop) (E:∀e o c,J e c->e.length<b->YieldAt j (m-1) cm v #[.int .i64 o] c λi f=>
  (i=.returned (.bool bq)/\J (e++[o]) f/\Below n c f)\/(i=.returned (.bool bp)/\r (e++[o]) f))
 (c:bC) (Q:c.cell? ⟨q,0,bo⟩=Y (.slice (Y ⟨h,k,bo⟩) b x)) (G:∀d,d<b->c.cell? ⟨h,k+d,bo⟩=Y (.int .i64 (g[d]?.getD 0))) (z:J [] c):
 akZ j m cm 317 #[.func (.yield v) #[] #[],.pointer (Y ⟨q,0,bo⟩)] c λi f=>(∃L,i=.returned L)/\((∃w,w=mZ (λd=>g[d]?.getD 0) b/\J w f)\/(∃e,(∃a,a<=b/\e=mZ (λd=>g[d]?.getD 0) a)/\r e f)):=by
 refine alO an4 bn A ?_ K;simp only[aoU,uC,iv,p5,alr,als,wI,wJ,wT,wR,ho,kF]
 gi_wp2
 gi_loopw [7] (λl wr=>∃a:X,a<=b/\l=.int .i64 a/\J (mZ (λd=>g[d]?.getD 0) a) wr/\Below n c wr) (λl _=>b-(intOf l).toNat)
 case atStart=>exact⟨0,eU _,bn,z,amp _ _⟩
 case round=>
  obtain⟨a,S,rfl,s,u⟩:=hrel;have H:a<b->wr.cell? ⟨h,k+a,bo⟩=Y (.int .i64 (g[a]?.getD 0)):=λy=>(u.cell (p:=⟨h,k+a,bo⟩) F).trans (G a y);by_cases t:a<b
  ·obtain⟨P,ad,N,O,V,D⟩:=E _ (g[a]?.getD 0) wr s (by rw[agh];exact t);have R:=H t
   gi_wp2
   refine D.mono ?_;rintro i M (⟨rfl,B,I⟩|⟨rfl,C⟩)
   ·gi_wp2
    go_roundw
    case rel=>exact⟨a+1,aa,ac,by rw[Tx];exact B,u.trans I⟩
    case measure=>simp[intOf];omega
   gi_wp2
   refine bodyPost_ret (results_none bn _ _ _) rfl ?_;exact⟨⟨_,bn⟩,.inr ⟨_,⟨a+1,aa,(Tx _ _).symm⟩,C⟩⟩
  obtain rfl:a=b:=by omega
  gi_wp2
  go_end0
  exact⟨⟨_,bn⟩,.inl ⟨_,bn,s⟩⟩
def agi (a:aj6) {b:X} (d:b<=a.length):mZ (λf=>a[f]?.getD 0) b=a.take b:=by
 apply amo
 ·simp[mZ,d]
 intro e c g;have:e<a.length:=(by simp[mZ] at c;omega);simp[mZ,this]
def pW (i:X) (g:bC) (f:Value) (a:aj6):Prop:=
 (∃h c,f=.slice h 0 c/\a=[])\/∃b e c,f=.slice (Y ⟨b,e,bo⟩) a.length c/\b<i/\∀d,d<a.length->g.cell? ⟨b,e+d,bo⟩=Y (.int .i64 (a[d]?.getD 0))
def pW.below {b:X} {c d:bC} (l:Below b c d) {i:Value} {j:aj6}:pW b c i j->pW b d i j
 |.inl a=>.inl a
 |.inr ⟨e,h,k,a,f,m⟩=>.inr ⟨e,h,k,a,f,λg n=>(l.cell (p:=⟨e,h+g,bo⟩) f).trans (m g n)⟩
set_option maxRecDepth 100000 in
set_option maxHeartbeats 1000000 in
def agp (a:ala) (n:X) (i:a.fn 317) (k:a.round=bo) (m c:X) (e:bv Addr) (f:X) (J:aj6->bC->Prop) (b:bC) (p:b.cell? ⟨c,0,bo⟩=Y (.slice e 0 f)) (h:J [] b):akZ a n cm 317 #[.func (.yield m) #[] #[],.pointer (Y ⟨c,0,bo⟩)] b λg d=>(∃o,g=.returned o)/\J [] d:=by
 refine alO an4 bn i ?_ k;simp only[aoU,uC,iv,p5,alr,als,wI,wJ,wT,wR,ho,kF]
 gi_wp2
 gi_loopw [7] (λl wr=>l=.int .i64 0/\J [] wr) (λ_ _=>0)
 case atStart=>exact⟨bn,h⟩
 case round=>
  obtain⟨rfl,j⟩:=hrel
  gi_wp2
  go_end0
  exact⟨⟨_,bn⟩,j⟩
set_option maxHeartbeats 1000000 in
def agq (a:ala) (i:X) (g:a.fn 297) (h:a.round=bo) (c:bv Addr) (e d:X) (b:bC):akZ a i cm 297 #[.slice c e d] b λf j=>f=.returned (.func (.func 317) #[] #[.pointer (Y ⟨b.heap.size,0,bo⟩)])/\j=b.alloc (.cells #[.slice c e d] 23):=by
 refine alO Tryz.func297 bn g ?_ h;simp only[Tryz.ntmps297,uC,iv,p5,alr,als,wI,wJ,wT,wR,ho,kF]
 gi_wp2
 go_ret
 exact⟨bn,bn⟩
def agr (c:ala) (g:X) (l:c.fn 317) (o:c.round=bo) (G:1<=g) (b h:X) (s:Value) (a:aj6) (I:a.length*8<=140737488351232) (e:bC) (z:b<e.heap.size) (H:h<=e.heap.size) (D:e.cell? ⟨b,0,bo⟩=Y s) (A:pW h e s a):SeqStopsK c g cm 317 #[.pointer (Y ⟨b,0,bo⟩)] (λL:Z=>#[akg .i64 L]) (Below h) (λt=>t=a) (λr=>r<+:a) a.length e:=λq J u j m _ _ B k=>by
 have n:=(m.cell (p:=⟨b,0,bo⟩) z).trans D;rcases A.below (m.mono H) with⟨w,i,rfl,rfl⟩|⟨x,K,i,rfl,C,E⟩
 ·exact(agp c g l o q b w i J j n k).mono λy v ⟨f,d⟩=>⟨f,.inl ⟨_,bn,d⟩⟩
 refine(ago c g l o G q b h x K a.length i a I C J u B j n E k).mono ?_;rintro y v ⟨f,⟨t,rfl,d⟩|⟨r,⟨M,F,rfl⟩,d⟩⟩
 ·exact⟨f,.inl ⟨_,agf a,d⟩⟩
 exact⟨f,.inr ⟨_,by rw[agi a F];exact List.take_prefix _ _,d⟩⟩
def Ym:(cm.info? 3).map (λa=>(a.zero,a.size,a.bytes))=Y (Y (.int .i64 0),1,8):=by kernel_rfl
set_option maxRecDepth 100000 in
set_option maxHeartbeats 2000000 in
def Vi (g:ala) (m:X) (E:g.fn 331) (u:g.fn 317) (q:g.round=bo) (a4:3<=m) (e:X) (r:Value) (f:aj6) (M:f.length*8<=140737488351232) (a:bC) (F:e<a.heap.size) (o:a.cell? ⟨e,0,bo⟩=Y r) (H:pW a.heap.size a r f):akZ g m cm 331 #[.slice bo 0 0,.func (.func 317) #[] #[.pointer (Y ⟨e,0,bo⟩)]] a λB t=>∃b,B=.returned b/\t.ownsRow a.heap.size 3 1 b f.length (f.map (akg .i64))/\(b=.slice bo 0 0↔f=[])/\Below a.heap.size a t:=by
 have D:1<=m:=aa;obtain⟨S,J,P,Q,R⟩:=info_parts Ym;refine callsIn_of_wp_marks Tryz.func331 bn E ?_ q;simp only[Tryz.ntmps331,uC,iv,p5,alr,als,wI,wJ,wT,wR,ho,kF]
 gi_wp2
 have A:=aoV a 23 (.slice bo 0 0);have n:Below a.heap.size a (a.alloc (.cells #[.slice bo 0 0] 23)):=(amp _ a).alloc (bd _) _;refine wpIn_rangeFunc_ownG q D (gf:=317) (lb:=#[.pointer (Y ⟨e,0,bo⟩)]) rfl u (enters_of an4 (by kernel_rfl) rfl) (agr g (m-1) u q aa e a.heap.size r f M _ (by simp;omega) ac ((n.cell (p:=⟨e,0,bo⟩) F).trans o) (H.below n)) belowK_t (belowK_b ac) (amp _ _) (λ_=>rfl) (λc d=>(∃b,Boxed d a.heap.size 23 b/\d.ownsRow a.heap.size 3 1 b c.length (c.map (akg .i64))/\(b=.slice bo 0 0↔c=[]))/\Below a.heap.size a d) (λ_ _ _=>b4) (OwnFrom.and (Own.from (holdsRow_own a.heap.size a.heap.size 23 3 1 (λc=>c.length) (λc=>c.map (akg .i64)) (λc b=>b=.slice bo 0 0↔c=[])) _) (ownFrom_below (bd _) ac)) (λ_ _ _ _ _ N _ _=>N) ⟨⟨_,A,World.ownsRow_nil _ _ _ _,ac⟩,n⟩ (λj=>{tmps:=#[.slice bo 0 0,.func (.func 317) #[] #[.pointer (Y ⟨e,0,bo⟩)],.pointer (Y ⟨a.heap.size,0,bo⟩),bV,.slice bo 0 0,.int .i64 j,.func (.func 317) #[] #[.pointer (Y ⟨e,0,bo⟩)],.int .i64 j,bV,bV,bV,bV,bV],defers:=[]}) ?assign ?body ?done ?stop
 case assign=>
  intro T j d U i
  gi_wp2
  exact i
 case body=>
  rintro T c j d ⟨⟨b,l,k,x⟩,h⟩ a3;have o:=l.cell;have a0:f.length<=maxLen:=(by simp only[maxLen];omega);have an:f.length*8<=140737488355328:=by omega
  gi_wp2_with (gi_at_builtin;refine wpListIn_append_own _ rfl _ _ 23 bn a.heap.size 3 S (.int .i64 0) 1 8 aoT J P Q R bn ab _ _ _ rfl (k.alloc _) ⟨d.heap.size,0,bo⟩ 1 1 [.int .i64 j] rfl rfl (cell_one_new _ _ _) (by simp[akp]) aa aa (by have:=h.size;simp;omega) ?_;intro bl bs y I _;obtain⟨am,ad,rfl⟩:=ownsRow_succ y;obtain⟨z,O,L,K,v⟩:=l.appended ab k h.size (bd _) y I;have ap:=z.cell;have av:=z.frozen)
  exact⟨K.from _,v,⟨_,O,by simpa using L,ac⟩,h.trans v⟩
 case done=>
  rintro s bx d G rfl ⟨⟨b,l,k,x⟩,h⟩ i;have o:=l.cell
  gi_wp2
  refine⟨ac,.inl ⟨_,_,bn,run_takeDeferred i,?_⟩⟩;exact⟨_,results_tmp bn _ _ _,b,bn,ownsRow_putObj k _ i bn,x,h.trans (belowK_b (w:=a) (bd _) d s _ _ (by simp at G;omega) i bn rfl)⟩
 case stop=>
  rintro s V c d _ _ C _;exact C.elim
set_option maxHeartbeats 1000000 in
def Wb (b:ala) (f:X) (m:b.fn 315) (k:b.fn 331) (l:b.fn 317) (j:b.round=bo) (v:4<=f) (e:X) (g:Value) (c:aj6) (s:c.length*8<=140737488351232) (a:bC) (n:e<a.heap.size) (q:a.cell? ⟨e,0,bo⟩=Y g) (o:pW a.heap.size a g c):akZ b f cm 315 #[.func (.func 317) #[] #[.pointer (Y ⟨e,0,bo⟩)]] a λi h=>∃d,i=.returned d/\h.ownsRow a.heap.size 3 1 d c.length (c.map (akg .i64))/\(d=.slice bo 0 0↔c=[])/\Below a.heap.size a h:=by
 have u:1<=f:=aa;refine alO Tryz.func315 bn m ?_ j;simp only[Tryz.ntmps315,uC,iv,p5,alr,als,wI,wJ,wT,wR,ho,kF]
 gi_wp2_with (gi_at_call 331;refine(Vi b (f-1) k l j aa e g c s _ n q o).mono ?_;rintro i w ⟨d,rfl,t,r,p⟩)
 go_ret
 exact⟨d,bn,t,r,p⟩
open Go.jy
theorem aew {M:eE->X->Prop} {f:bC} {k:X} {j:Value} {b:aj6} (s:f.ownsRow k 3 1 j b.length (b.map (akg .i64))):∃d,aU M f (.osl (.int .i64)) [j] b d/\d.Nodup/\∀h∈d,k<=h/\h<f.heap.size:=by
 rcases s.2 with⟨rfl,t⟩|⟨e,l,i,rfl,w,q,u,A,v,m⟩
 ·obtain rfl:=re t;exact⟨[],⟨bo,0,bn,.inl ⟨bn,bn,bn,bn⟩⟩,ac,ac⟩
 rw[alG] at v m;have o:∀a,a<l->f.cell? ⟨e,a,bo⟩=Y (i[a]?.getD bV)/\f.frozen? ⟨e,a,bo⟩=bp:=λa c=>(by constructor<;>simp[alk,amP,q,(aa:a<i.size)]);refine⟨[e],⟨Y ⟨e,0,bo⟩,l,bn,.inr ⟨e,0,bI b.length [],bn,ac,ac,u,λa _ c=>?_,λg z d r p=>?_⟩⟩,ac,λh n=>?_⟩
 ·obtain⟨ay,y⟩:=o a (by simpa[aku] using c);exact⟨by rw[ay];rfl,y⟩
 ·have x:g<b.length:=(hT.1 r).1;obtain rfl:d=[]:=by
   rw[List.getElem?_replicate] at p;split at p<;>simp_all
  refine⟨[.int .i64 z],bn,λa j c=>?_,bn,bn⟩;cases a with
  |succ a=>simp at c
  |zero=>
   simp only[ri,eZ] at c;subst c;simp only[aku,alG,mC,l4];rw[(o g aa).1];have:(i.toList.take b.length)[g]?=(b.map (akg .i64))[g]?:=(by rw[m]);rw[sB x,B8,jQ,r] at this;rw[this];rfl
 simp only[gp] at n;subst n;exact⟨w,(sj.1 q).1⟩
def Yc {o:eE->X->Prop} {n:bC} {i:Value} {a:aj6} {k:aj5} (g:aU o n (.osl (.int .i64)) [i] a k):(∃j b,i=.slice j 0 b/\a=[])\/∃c e b,i=.slice (Y ⟨c,e,bo⟩) a.length b/\a.length<=b/\Holds (akg .i64) n c e a.toArray/\k=[c]:=by
 obtain⟨j,b,m,g⟩:=g;simp only[h4,ca] at m;subst m;rcases g with⟨rfl,rfl,rfl,rfl⟩|⟨c,e,f,rfl,rfl,A,s,t,l⟩
 ·exact .inl ⟨bo,0,bn,bn⟩
 right;have u:f.flatten=[]:=by
  rw[List.flatten_eq_nil_iff];intro C x;obtain⟨h,B,rfl⟩:=g1.1 x;obtain⟨r,_,_,y⟩:=l h (a[h]'(by omega)) f[h] ac ac
  exact y.1
 refine⟨c,e,b,bn,s,λd v=>?_,by rw[u]⟩;have w:d<a.length:=(by simpa using v);obtain⟨r,z,p,_,q⟩:=l d a[d] (f[d]'(by omega)) ac ac
 subst q;have ay:=p 0 _ rfl;simp only[aku,alG,l4] at ay;exact⟨by rw[ay];simp[w],(t (e+d) aa (by simp only[aku];omega)).2⟩
def G7 (E:fF) (c:aj6->eo):Prop:=∀b a,c b=Y a->sk E 316 [.m ⟨.osl (.int .i64),b⟩ a] []
set_option maxRecDepth 100000 in
set_option maxHeartbeats 2000000 in
def afp (i:ala) (h:∀e,i.fn e) (z:i.round=bo) (N:∀(an:X) (e:FuncId) (v:ev) (c:bC) (t:Ending->bC->Prop),Calls cm e v c t->akZ i an cm e v c t) {E:fF} (H:E.P=cm) {B:aj6->eo} (ad:G7 E B) (k:X) (a4:5<=k) (m:X) (r:Value) (l s:aj6) (am:B l=Y s) (U:l.length*8<=140737488351232) (c:bC) (I:lv E (λb=>b<c.heap.size) c) (G:m<c.heap.size) (L:c.cell? ⟨m,0,bo⟩=Y r) (J:pW c.heap.size c r l):akZ i k cm 296 #[.func (.func 317) #[] #[.pointer (Y ⟨m,0,bo⟩)]] c λp u=>∃g e C,p=.returned g/\aU C u (.osl (.int .i64)) [g] s e/\(∀b∈e,c.heap.size<=b)/\Below c.heap.size c u:=by
 have a3:1<=k:=aa;have bl:=h 315;have bs:=h 316;refine alO Tryz.func296 bn (h _) ?_ z;simp only[Tryz.ntmps296,uC,iv,p5,alr,als,wI,wJ,wT,wR,ho,kF]
 gi_wp2_with (first
  |(
   gi_at_call 315;refine(Wb i (k-1) (h _) (h _) (h _) z aa m r l U _ G L J).mono ?_;rintro p D ⟨g,rfl,A,S,d⟩
   obtain⟨e,T,R,o⟩:=aew (M:=be (λ_=>b4) (λ_=>b4)) A;have n:=ad l s am D (λb=>b<c.heap.size) (λ_=>b4) [g] [e] (λb a=>by rcases a with a|a;exact jh a d.size;exact a.elim) ⟨⟨[g],bn,T⟩,trivial⟩ (by simpa using R) (λb d=>⟨Nat.not_lt.2 (o b (by simpa using d)).1,λa=>a,(o b (by simpa using d)).2⟩) True.intro (I.mono (λ_ a=>a) λb a=>d.block b a);rw[H] at n;have n:=N (k-1) _ _ _ _ n;clear A S)
  |(gi_at_call 316;refine n.mono ?_;rintro p av ⟨ap,w,bx,cX,rfl,f⟩))
 have O:∃j,w=[j]:=by
  have:=f.args
  match w,this with
  |[j],_=>exact⟨j,bn⟩
  |[],a=>exact a.elim
  |_::_::_,a=>exact a.2.elim
 obtain⟨j,rfl⟩:=O;obtain⟨a0,ao,y⟩:=f.args.1;have Q:=y.len;obtain⟨F,rfl⟩:=p4.1 Q;have ao:g=F:=ao;subst ao;have V:cX=[]:=by
  have:=f.res
  match cX,this with
  |[],_=>rfl
  |_::_,a=>exact a.elim
 subst V
 go_ret
 refine⟨g,j,_,bn,y,λb K=>?_,?_⟩
 ·have:=(f.MS b (by simp[K])).2.2.2;rcases this with a|a
  ·exact c4 d.size a
  exact(o b (by simpa using a)).1
 exact⟨f.os.trans d.os,f.tape.trans d.tape,f.output.trans d.output,c4 d.size f.size,λq x=>(f.heap q (jh x d.size) (λa=>by have:=(o q (by simpa using a)).1;omega)).trans (d.block q x)⟩
def Wi {j:eE->X->Prop} {b:bC} {B:X} {i:Value} {e:aj6} {h:aj5} (n:aU j b (.osl (.int .i64)) [i] e h) (m:∀c∈h,B<=c) (r:e.length<=1000000):Calls cm 295 #[i] b (λf g=>∃d a,f=.returned (.slice d (akY e).length a)/\Below B b g):=by
 rcases Yc n with⟨d,a,rfl,rfl⟩|⟨c,p,a,rfl,l,k,rfl⟩
 ·refine(Any.slices_Compact_int_empty Tryz.Pf d a b).mono ?_;rintro f g ⟨rfl,rfl⟩;exact⟨d,a,bn,amp _ _⟩
 refine(Any.slices_Compact_int Tryz.Pf c p a e b k aa l).mono ?_;rintro f g ⟨rfl,s,rfl⟩;refine⟨_,a,bn,bn,bn,bn,by simp[putRow,mapBlock,aoW],λo q=>?_⟩;have:=m c ac;simp[putRow,mapBlock,aoW,Array.getElem?_modify,(aa:c≠o)]
set_option maxRecDepth 100000 in
set_option maxHeartbeats 2000000 in
def afY (g:ala) (i:∀k,g.fn k) (p:g.round=bo) (t:∀(S:X) (k:FuncId) (r:ev) (a:bC) (q:Ending->bC->Prop),Calls cm k r a q->akZ g S cm k r a q) {E:fF} (F:E.P=cm) {x:aj6->eo} (O:G7 E x) (j:X) (av:7<=j) (c:bv Addr) (b e:X) (f m:aj6) (R:x f=Y m) (N:f.length=b) (bl:f.length<=1000000) (Q:m.length<=1000000) (a:bC) (G:lv E (λd=>d<a.heap.size) a) (H:pW a.heap.size a (.slice c b e) f):akZ g j cm 259 #[.slice c b e] a λh z=>h=.returned (.bool (br ((akY m).length<f.length)))/\Below a.heap.size a z:=by
 have ap:1<=j:=aa;have a0:=i 297;have a3:=i 296;have a4:=i 295;generalize M:(akY m).length=an;refine alO Tryz.func259 bn (i _) ?_ p;simp only[Tryz.ntmps259,uC,iv,p5,alr,als,wI,wJ,wT,wR,ho,kF];have C:=aoV a 23 (.slice c b e);have n:Below a.heap.size a (a.alloc (.cells #[.slice c b e] 23)):=(amp _ a).alloc (bd _) _;have I:pW (a.alloc (.cells #[.slice c b e] 23)).heap.size (a.alloc (.cells #[.slice c b e] 23)) (.slice c b e) f:=by
  rcases H.below n with l|⟨d,T,D,h,o,L⟩
  ·exact .inl l
  exact .inr ⟨d,T,D,h,by simp;omega,L⟩
 have w:=afp g i p t F O (j-1) aa a.heap.size (.slice c b e) f m R aa _ (G.mono (λd (l:d<a.heap.size)=>jh l n.size) λd l=>n.block d l) ac C.cell I
 gi_wp2_with (first
  |(gi_at_call 297;refine(agq g (j-1) (i _) p c b e a).mono ?_;rintro h bx ⟨rfl,rfl⟩)
  |(gi_at_call 296;refine w.mono ?_;rintro h y ⟨bs,k,U,rfl,v,u,o⟩;have s:=t (j-1) _ _ _ _ (Wi (B:=a.heap.size) v (λd J=>by have:=u d J;simp at this;omega) Q);rw[M] at s;have A:Below a.heap.size a y:=n.trans (o.mono ac);clear v u o w)
  |(gi_at_call 295;refine s.mono ?_;rintro h V ⟨ad,am,rfl,K⟩))
 go_ret
 exact⟨by rw[N];rfl,A.trans K⟩
def afV (c:aj6->eo):jO:=⟨259,[.v (.a8 .c9 (.int .i64))],[.bool],λa=>(BX c a.1).map λb=>(b,())⟩
def afW {E:fF} (q:E.P=cm) {sort:aj6->eo} (K:G7 E sort):aC E (afV sort):=by
 refine⟨λg f=>by rw[q];exact Tryz.call259 g f,?_⟩;rintro⟨d,_⟩ b c;have w:(BX sort d).map (λb=>(b,()))=Y b:=c;obtain⟨B,e,rfl⟩:=fG.1 w;clear c w;unfold BX at e;cases l:b2 d.length 1000000 with
 |false=>rw[l] at e;cases e
 |true=>
 rw[l] at e;obtain⟨s,M,e⟩:=eV.1 e;cases m:b2 s.length 1000000 with
 |false=>rw[m] at e;cases e
 |true=>
 rw[m] at e;have c:br ((akY s).length<d.length)=B:=gq e;subst c;have l:=gX l;have m:=gX m;rintro f t A g k u h an am _hself;have h:mG (y2 t A f) [.v ⟨.a8 .c9 (.int .i64),d⟩] g k:=h;obtain⟨p,j,rfl,rfl⟩:∃p j,g=[p]/\k=[j]:=by
  cases g with
  |nil=>exact h.elim
  |cons p g=>
   cases k with
   |nil=>exact h.elim
   |cons j k=>
    have a:=h.2;cases g with
    |nil=>cases k with
     |nil=>exact⟨p,j,bn,bn⟩
     |cons=>exact a.elim
    |cons=>exact a.elim
 obtain⟨⟨rfl,S,rfl,J⟩,_⟩:=h;obtain⟨_,o,i,rfl,ad,ap,I⟩:=J;have G:pW f.heap.size f (.slice o d.length i) d:=by
  rcases I with a|⟨b,O,rfl,H,L⟩
  ·exact .inl ⟨o,i,by rw[show d=[] from a];rfl,a⟩
  refine .inr ⟨b,O,i,bn,u b H,λy x=>?_⟩;obtain⟨U,T,C,_,D⟩:=L y d[y] (by simp[x]);subst D;have z:=C 0 _ rfl;simp only[aku,alG,l4] at z;rw[z];simp[x]
 intro F;have a:=afY Fence.wide (λ_=>trivial) rfl (λN j R f Q a=>(callsIn_wide (n:=N)).2 a) q K 10 aa o d.length i d s M bn l m f (F.mono (λb a=>u b (.inl a)) λ_ _=>rfl) G;have a:=callsIn_wide.1 a;show Calls E.P 259 #[.slice o d.length i] f _;rw[q];refine a.mono ?_;rintro V av ⟨rfl,c⟩;refine⟨t,[[]],[[]],[.bool _],bn,⟨⟨bn,trivial⟩,⟨⟨[.bool _],bn,bn,bn⟩,trivial⟩,ac,ac,λ_ a=>a,λ_ a=>.inl a,c.size,c.os,c.tape,c.output,λb r=>.of_heap (c.block b r),λb r _=>c.block b r⟩⟩
end Ma
end Go.Proofs
end
namespace Go.jy
variable{a:X}{b:aj6}{c:Type}{d:Z}{e:Value}{f:bm hB}{g:bm ah}{h:bC}{i:bm aj9}{j:eE->X->Prop}{k:Func}{l:X->Prop}
section
open Go.Proofs
open Tryz
abbrev fX:ah:=(.int .u32)
abbrev fO:ah:=(.a8 .bg fX)
abbrev cS:ah:=(.st (.pr .bool (.pr fO .nil)))
abbrev aD:ah:=(.int .i64)
abbrev cL:ah:=(.st (.pr .bool (.pr cS (.pr aD .nil))))
abbrev he:ah:=(.osl aD)
abbrev c6:ah:=(.int .u64)
abbrev w3:ah:=(.st (.pr aD (.pr aD (.pr he (.pr he (.pr (.osl c6) .nil))))))
abbrev hf:ah:=(.a8 .bg aD)
abbrev fq:ah:=(.a8 .c9 aD)
abbrev kJ:ah:=(.a8 .c9 c6)
abbrev lE:ah:=(.st (.pr aD (.pr aD (.pr fq (.pr fq (.pr kJ .nil))))))
abbrev qg:ah:=(.st (.pr fq (.pr fq (.pr kJ (.pr fq (.pr fq (.pr kJ (.pr aD .nil))))))))
abbrev pb:ah:=(.st (.pr (.a8 .bg hf) .nil))
abbrev w6:ah:=(.st (.pr aD (.pr pb (.pr (.a8 .bg (.fB .bg cL)) .nil))))
abbrev mF:ah:=(.st (.pr hf (.pr (.a8 .bg c6) .nil)))
abbrev Ct:ah:=(.st (.pr (.ptr .bg w6) (.pr he (.pr he (.pr (.osl c6) (.pr (.osl mF) (.pr aD .nil)))))))
abbrev Cu:ah:=(.st (.pr hf (.pr hf (.pr (.a8 .bg c6) (.pr hf (.pr hf (.pr (.a8 .bg c6) (.pr aD .nil))))))))
abbrev sN:ah:=(.osl cL)
abbrev zm:ah:=(.osl sN)
abbrev w2:ah:=(.pr zm .nil)
abbrev Co:ah:=(.st (.pr aD (.pr aD (.pr sN .nil))))
abbrev Mb:ah:=(.st (.pr he (.pr he (.pr (.osl c6) (.pr he (.pr he (.pr (.osl c6) (.pr aD .nil))))))))
abbrev oy:ah:=(.st (.pr aD (.pr aD (.pr c6 .nil))))
abbrev zn:ah:=(.osl .bool)
abbrev sM:ah:=(.optr (.st (.pr he (.pr aD (.pr zn w2)))))
abbrev pa:ah:=(.st (.pr aD (.pr aD (.pr fq (.pr aD .nil)))))
abbrev kI:ah:=(.ptr .c9 (.st (.pr fq (.pr aD (.pr (.a8 .c9 .bool) (.pr (.a8 .c9 (.a8 .c9 cL)) .nil))))))
abbrev Mc:ah:=(.st (.pr he (.pr (.osl c6) (.pr hf (.pr (.osl (.osl c6)) .nil)))))
abbrev G8:ah:=(.st (.pr he (.pr hf (.pr (.a8 .bg c6) (.pr he (.pr he (.pr (.osl c6) (.pr aD .nil))))))))
abbrev uL:ah:=(.st (.pr aD (.pr aD (.pr hf (.pr hf (.pr (.a8 .bg c6) .nil))))))
abbrev UD:ah:=(.optr (.st (.pr hf (.pr aD w2))))
abbrev l5:ah:=(.st (.pr (.a8 .c9 fq) .nil))
abbrev l6:ah:=(.st (.pr cS (.pr cS .nil)))
abbrev Cp:ah:=(.st (.pr aD (.pr aD (.pr aD .nil))))
abbrev G9:ah:=(.osl (.st (.pr aD (.pr aD (.pr he (.pr aD .nil))))))
abbrev UE:ah:=(.optr (.st (.pr he (.pr aD w2))))
abbrev Ha:ah:=(.st (.pr fq (.pr aD (.pr (.a8 .c9 (.a8 .c9 cL)) .nil))))
abbrev w4:ah:=(.osl zn)
abbrev w5:ah:=(.st (.pr he (.pr (.osl c6) .nil)))
abbrev nI:ah:=(.a8 .bg cL)
abbrev lD:ah:=(.osl fX)
abbrev Hb:ah:=(.st (.pr hf (.pr (.a8 .bg c6) (.pr hf (.pr (.a8 .bg (.a8 .bg c6)) .nil)))))
abbrev UF:ah:=(.optr cL)
abbrev rp:ah:=(.st (.pr .bool (.pr cS (.pr aD (.pr .bool .nil)))))
abbrev Hc:ah:=(.st (.pr aD (.pr aD (.pr nI .nil))))
abbrev Cq:ah:=(.ptr .bg (.st (.pr hf (.pr aD (.pr (.a8 .bg .bool) (.pr (.a8 .bg nI) .nil))))))
abbrev UG:ah:=(.optr w3)
abbrev UH:ah:=(.ptr .bg cS)
abbrev Cr:ah:=(.st (.pr (.osl hf) .nil))
abbrev UI:ah:=(.optr cS)
abbrev Md:ah:=(.a8 .bg (.st (.pr aD (.pr aD (.pr hf (.pr aD .nil))))))
abbrev UJ:ah:=(.ptr .bg cL)
abbrev qf:ah:=(.osl oy)
abbrev UK:ah:=(.optr (.st (.pr aD (.pr pb (.pr (.osl (.mp cL)) .nil)))))
abbrev Hd:ah:=(.st (.pr hf (.pr aD (.pr (.a8 .bg nI) .nil))))
abbrev UL:ah:=(.st (.pr aD (.pr aD (.pr (.a8 .c9 cL) .nil))))
abbrev UM:ah:=(.optr Co)
abbrev He:ah:=(.optr (.st (.pr w4 (.pr zn .nil))))
abbrev Me:ah:=(.osl (.osl l6))
abbrev UN:ah:=(.ptr .bg lE)
abbrev UO:ah:=(.st (.pr fq (.pr kJ (.pr fq (.pr (.a8 .c9 kJ) .nil)))))
abbrev na:ah:=(.a8 .c9 pa)
abbrev UP:ah:=(.optr Mb)
abbrev UQ:ah:=(.optr Cp)
abbrev Cs:ah:=(.ptr .bg l5)
abbrev UR:ah:=(.optr Mc)
abbrev US:ah:=(.ptr .bg qg)
abbrev Mf:ah:=(.osl nI)
def tt:bm (X×ah):=[(3,aD),(4,.bool),(5,(.int .u8)),(9,.str),(22,(.a8 .bg c6)),(23,hf),(24,(.a8 .bg c6)),(26,uL),(27,Md),(31,Cu),(41,c6),(42,c6),(46,Cp),(50,nI),(52,Hc),(55,(.a8 .bg nI)),(56,fO),(58,cS),(60,cL),(63,(.a8 .bg (.a8 .bg cS))),(85,(.a8 .bg hf)),(87,pb),(88,(.a8 .bg (.fB .bg cL))),(90,w6),(93,(.st (.pr aD (.pr aD (.pr hf (.pr aD .nil)))))),(96,(.a8 .bg mF)),(98,(.st (.pr (.ptr .bg w6) (.pr hf (.pr hf (.pr (.a8 .bg c6) (.pr (.a8 .bg mF) (.pr aD .nil)))))))),(99,(.a8 .bg (.a8 .bg Cq))),(100,Cq),(103,(.a8 .bg Cq)),(107,(.a8 .bg Hd)),(108,(.a8 .bg Hb)),(110,Hd),(114,(.a8 .bg (.a8 .bg c6))),(116,Hb),(127,(.a8 .bg (.a8 .bg .bool))),(129,c6),(130,(.a8 .bg .bool)),(142,(.a8 .bg (.a8 .bg l6))),(148,l6),(149,(.a8 .bg l6)),(152,(.a8 .bg cS)),(158,fX),(163,(.fB .bg cL)),(182,(.st (.pr hf (.pr aD (.pr (.a8 .bg .bool) (.pr (.a8 .bg nI) .nil)))))),(191,mF),(202,(.a8 .bg oy)),(205,oy),(234,(.a8 .bg (.a8 .bg .bool))),(259,(.st (.pr (.a8 .bg (.a8 .bg .bool)) (.pr (.a8 .bg .bool) .nil)))),(288,(.fn 0 .nil)),(321,rp),(323,c6)]
def To:∀a b,aq tt a=Y b->fo cm b a:=Tp (by kernel_rfl)
def E:fF:={P:=cm,tt:=tt,ok:=To,mix:=by kernel_rfl,glob:=[⟨0,301,.u8,qo⟩],gok:=X0 To (S:=5) (by kernel_rfl) (by kernel_rfl),eqs:=[46],eqok:=Oa (by kernel_rfl)}
def Lp:bm ah:=[he,UF,lD,cL,cS,UG,UI,.bool,sN,UD,c6,UH,w4,qf,UJ,sM,UM,UE,zm,UP,UQ,zn,UR,UN,G9,Me,w3,Mf,fO,(.optr Cu),(.optr Cr),(.optr w5),(.optr G8),Cu,US,uL,Cs,(.optr Ct),Co,(.optr pb),(.osl c6),pb,hf,(.optr uL),Cp,w5,(.optr Hc),Hc,UK,(.ptr .bg pa),(.optr he),(.osl Hb),Md,(.optr l6),He,(.optr lE),nI,(.osl Hd),(.optr zm),(.osl hf),(.optr hf),(.st (.pr he (.pr aD w2))),(.ptr .bg Ha),(.osl (.a8 .bg cS)),(.ptr .bg l6),l6,Cr,(.mp cL),(.ptr .bg rp),mF,(.osl (.osl Cq)),(.st (.pr hf (.pr aD w2))),Mc,(.osl kJ),(.ptr .bg UL),oy,(.optr c6),(.optr pa),(.ptr .bg aD),(.optr mF),G8,(.optr Ha),Mb,(.osl cS),(.osl l6),fX,(.a8 .bg oy),(.ptr .bg oy),(.optr aD),aD,pa,rp,(.ptr .bg .nil),(.osl mF),(.a8 .bg mF),(.ptr .bg UO),(.a8 .bg nI),(.a8 .bg (.a8 .bg .bool)),(.st (.pr aD (.pr aD (.pr he (.pr aD .nil))))),(.a8 .bg hf),(.ptr .bg w6),(.osl (.mp cL)),(.ptr .bg na),(.st (.pr he (.pr aD (.pr zn w2)))),Ct,Ha,(.osl (.osl c6)),(.a8 .bg c6)]
def aI {h:hD f->bv (jd f (lO g))} (i:zl E) (c:X) (e:E.P.funcs[a]?=Y k) (d:(k.body.isSome&&b2 f.length k.ntmps)=bq:=by kernel_rfl) (l:(k.name=="runtime.NumGoroutine")=bp:=by kernel_rfl) (j:∀b,AZ ⟨E.tt,i.1,(KF Lp c).2.1,k.ntmps,kb 0 f++n5 (jM 0 f),[],(KF Lp c).2.2,jM 0 f,[],[],E.glob,E.eqs⟩ ((KF Lp c).1.ex (k.body.getD .skip)) (k.body.getD .skip) f k.results.toList g b=h b:=by intro b;kernel_rfl):aC E ⟨a,f,g,h⟩:=
 aC.q i _ e (VT e l (by have:=d;simp only[bk] at this;exact this.1)) _ _ d j
def yn:aC E ⟨16,[.v aD,.v aD],[aD],qu⟩:=aI aH 0x60d func16
def Km:aC E ⟨55,[.v kJ,.v aD],[c6],vh⟩:=aI (aj yn aH) 0x7a1e9b060d func55
def FM:aC E ⟨28,[.v c6],[.bool],s9⟩:=aI aH 0xd func28
def v5:aC E ⟨229,[.v fO],[lD],mI⟩:=aI aH 0x2082c821ab266d7f4b3435b0c101a28f318a51a6c0d func229
def tS:aC E ⟨227,[.v .bool,.v fO],[cS],me⟩:=aI (aj v5 aH) 0x1830070321200d func227
def Bp:aC E ⟨156,[.v aD],[cS],rE⟩:=aI (aj tS aH) 0xf8130f0123de5733a6c0d func156
def ym:aC E ⟨155,[.v cS],[cS],pk⟩:=aI (aj tS aH) 0x10558600d func155
def v7:aC E ⟨77,[],[cL],rG⟩:=aI aH 0x608 func77
def vG (a:Z):gV:=⟨E.tt,[],[],14,[0]++(kb 0 [.v fX]++n5 (jM 0 [.v fX])),[(0,.val fX a)]++[],[],jM 0 [.v fX],[],[],E.glob,E.eqs⟩
noncomputable def tA:Code:=Tryz.f237.body.getD .skip
def vH:bT Oper:=(wh 3 tA).getD #[]
def Jl:mx:=.two .none (.leaf) (.two .none (.two .none (.leaf) (.leaf)) (.leaf))
def Fi:mx:=.keep [0] (.two .none (.leaf) (.two .none Jl (.two .none (.leaf) (.leaf))))
def x7 (a:Z):aQ:=⟨[(4,.val .bool (a==0)),(3,.val fX a),(2,.val aD 0),(0,.val fX a)],[]⟩
def Jk (a:Z):b5->aQ->bv (jd [.v fX] (lO [.int .i64])):=Om E.tt [.v fX] [.tmp 2] [.int .i64] (a,())
def YJ:tA=.seq (Gh tA) (.seq (Gh (SB tA)) (.seq (.region 3 vH bp) .ret)):=by kernel_rfl
def YM:vH.size=10:=by kernel_rfl
def YK (a:Z) (b:b5->aQ->bv c) (d:aQ->bv c):hR (vG a) .leaf (Gh tA) ⟨[(0,.val fX a)],[]⟩ c (BM (λe=>hR (vG a) Jl (Gh (SB tA)) e c (BM d b)) b)=bif a==0 then b .ret ⟨(2,.val aD 32)::(x7 a).g,[]⟩ else d (x7 a):=by kernel_rfl
def YG (a:Z) (b:aQ->bv c):la (vG a) vH [0,1,2,3,4] (x7 a) b=b ⟨(9,.val fX (cb.wrap (e0 cb a (cb.wrap (0-a))*125613361)))::(8,.val fX (e0 cb a (cb.wrap (0-a))))::(7,.val fX (cb.wrap (0-a)))::(6,.val fX a)::(5,.val fX a)::(x7 a).g,[]⟩:=by kernel_rfl
def YH (a c d b:Z):la (vG a) vH [5,6,7,8,9] ⟨(9,.val fX b)::(8,.val fX c)::(7,.val fX d)::(6,.val fX a)::(5,.val fX a)::(x7 a).g,[]⟩ (Jk a .ret)=(eN cb b 27).bind λe=>(ar qo e).bind λf=>Y (bL.wrap f,()):=by kernel_rfl
def YN (a:Z):Jk a .ret ⟨(2,.val aD 32)::(x7 a).g,[]⟩=Y ((32:Z),()):=by kernel_rfl
def YL (a:Z) (d:hD [.v fX]) (f g:cq) (b:b5->aQ->bv c) (h:d=(a,())):hR ⟨E.tt,[],[],14,kb 0 [.v fX]++n5 (jM 0 [.v fX]),[],[],jM 0 [.v fX],[],[],E.glob,E.eqs⟩ Fi (.seq f (.seq g (.seq (.region 3 vH bp) .ret))) ⟨nL 0 [.v fX] d,nM 0 [.v fX] d⟩ c b=hR (vG a) .leaf f ⟨[(0,.val fX a)],[]⟩ c (BM (λe=>hR (vG a) Jl g e c (BM (λe=>la (vG a) vH (bJ vH.size) e (b .ret)) b)) b):=by subst h;rfl
def YI (b:hD [.v fX]):AZ ⟨E.tt,[],[],14,kb 0 [.v fX]++n5 (jM 0 [.v fX]),[],[],jM 0 [.v fX],[],[],E.glob,E.eqs⟩ Fi tA [.v fX] [.tmp 2] [.int .i64] b=xC b:=by obtain⟨a,⟨⟩⟩:=b;show hR _ Fi tA _ _ (Jk a)=_;rw[YJ,YL a _ _ _ _ rfl,YK,YM,show bJ 10=[0,1,2,3,4]++[5,6,7,8,9] from rfl,I5,YG,YH,YN];exact Eq.refl (bif a==(0:Z) then Y ((32:Z),()) else(eN cb (cb.wrap (e0 cb a (cb.wrap (0-a))*125613361)) 27).bind λc=>(ar qo c).bind λd=>Y (bL.wrap d,()))
def T5:jO:=⟨237,[.v fX],[aD],xC⟩
def QS:aC E T5:=
 aC.of (fn:=Tryz.f237) (rs:=[.tmp 2]) [] [] [] Fi func237 (by kernel_rfl) (by kernel_rfl) (by kernel_rfl) call237 Tf (by intro a;exact YI a)
def Qv:aC E ⟨160,[.v cS],[aD],rF⟩:=aI (aj QS (aj v5 aH)) 0xfff03f421b60061aa16f0a6c0d func160
def Bq:aC E ⟨161,[.v cS],[cS],rD⟩:=aI (aj tS aH) 0x10558600d func161
def QR:aC E ⟨233,[.v fO,.v aD],[lD],xJ⟩:=aI aH 0x53d01391bde7118d0ac7d3ef9214db060d func233
def Kh:aC E ⟨234,[.v fO,.v aD],[lD,.bool],xK⟩:=aI aH 0xae324cae5979e8e0fe3c42bc0032316c0fa33799a98d35177a6226ce541ba6f9a5312616247cec1866b350374658d682429b060d func234
def J8:aC E ⟨165,[.v cS],[cS],xH⟩:=aI (aj tS aH) 0x10558600d func165
def abq:aC E ⟨230,[.v fO,.v fO],[lD],D2⟩:=aI aH 0x41f880420be0ec3b4b01fad20a17d5a9cdab20ad391bde7118d0ac7d3ef9214db060d func230
def QQ:aC E ⟨231,[.v fO,.v fO],[aD],Am⟩:=aI aH 0x620a429b060d func231
def abr:aC E ⟨232,[.v fO,.v fO],[lD],An⟩:=aI aH 0x2bfb002c07ff882a23ead4e6d590569c77118d0ac7d3ef9214db060d func232
def Bn:aC E ⟨153,[.v cS,.v cS],[cS],qv⟩:=aI (aj abr (aj QQ (aj abq (aj v5 (aj tS aH))))) 0x87eec45f48a50c4d35ea5dbd0327ba273d8d7d9851599a1b93c028393a4a49226da742b0e4b5741c7d1a4425335b38ac9ddf6ec6d73aa14fbcfefe8f838d623e950613abe741d88d1c5709c0f41a3bd5b492627075fd81041753060d func153
def J7:aC E ⟨159,[.v cS,.v cS],[cS],xI⟩:=aI (aj J8 (aj Bn aH)) 0x5e73c6ad8004bcf2b753060d func159
def Bo:aC E ⟨154,[.v cS,.v aD],[cS],ni⟩:=aI (aj Kh (aj QR (aj tS (aj J7 (aj Bp (aj ym aH)))))) 0x657a928fb28058de5154418953bd06329486eca3a7945218b305d21ce9d76312700b99aa9feb8968fe29e0c2b7cc5630429aa70f4b3f0612bdd729b060d func154
def Qw:aC E ⟨162,[.v cS,.v aD],[cS],xN⟩:=aI (aj Bo aH) 0x12a206e95ad94ccb18d26e4798ccc8a34c0d func162
def Ki:aC E ⟨238,[.v fX],[aD],xB⟩:=aI aH 0x2b42385dc039ada07d3 func238
def Qx:aC E ⟨163,[.v cS],[aD],Aj⟩:=aI (aj Ki (aj v5 aH)) 0x1870070758600d func163
def r4:aC E ⟨78,[.v cS,.v aD],[cL],nR⟩:=aI (aj v7 (aj Qx (aj Qw (aj Bq (aj Qv (aj ym aH)))))) 0x963e283b401bc6a47f500e722ae4a11b67b635a8a6db6db060d func78
def Kp:aC E ⟨96,[.v aD],[cL],xL⟩:=aI (aj r4 (aj Bp aH)) 0x18a00d func96
def qO:aC E ⟨74,[.v cL],[cL],mJ⟩:=aI (aj r4 (aj v7 aH)) 0xc570600d func74
def oO:aC E ⟨72,[.v cS],[aD],k5⟩:=aI (aj ym aH) 0xd func72
def QV:aC E ⟨251,[.v .bool,.v c6],[c6],rH⟩:=aI aH 0x60d func251
def abw:aC E ⟨248,[.v .bool,.v aD],[c6],As⟩:=aI (aj QV aH) 0x8a2dc93060d func248
def abW:aC E ⟨288,[.v cS,.v aD],[.bool],Ak⟩:=aI (aj Kh (aj v5 aH)) 0x2990006591f2c01c2d628060d func288
def abX:aC E ⟨289,[.v .bool,.v aD,.v .bool,.v aD],[.bool],Ec⟩:=aI aH 0xe2860d func289
def abx:aC E ⟨249,[.v .bool,.v cS,.v aD,.v .bool,.v aD],[cS],D7⟩:=aI (aj oO (aj abX (aj abW (aj Qw (aj Qv (aj Bp (aj Bn aH))))))) 0x4841b1f4c951b3668961efe0046ea6adac908c330f1e6893f358452583050a227323b3c816a80161d792bca935c86b039431f0d9047b5c98b2fe17e6a536c48e2860d func249
def abz:aC E ⟨250,[.v cS],[aD,.bool],D1⟩:=aI (aj ym aH) 0x6ce369aa2348940f9bc72429b6c0d func250
def aaV:aC E ⟨181,[.v .bool,.v cS,.v aD,.v .bool,.v aD],[c6],Ef⟩:=aI (aj QV (aj abz (aj abx (aj abw (aj Qx (aj Bo aH)))))) 0x2cd3add023f828516648d1039f3c84d19dcc4db6c48e2860d func181
def Rd:aC E ⟨99,[.v cL,.v aD],[c6],Ar⟩:=aI (aj qO (aj oO (aj aaV (aj Bq aH)))) 0x19da5495bdf3e1e25d606f1bd81ea02760dd565cb46a6db060d func99
def abm:aC E ⟨221,[.v aD,.v aD],[c6],Ed⟩:=aI (aj Rd (aj Kp aH)) 0x60d func221
def aaJ:aC E ⟨144,[.v c6],[c6],Ig⟩:=aI (aj abm aH) 0xd func144
def acL:aC E ⟨58,[.v c6,.v aD],[c6],vg⟩:=aI (aj FM (aj yn (aj aaJ aH))) 0x60d func58
def Qz:aC E ⟨17,[.v kJ,.v aD,.v aD,.v aD],[w3],vf⟩:=aI (aj acL (aj Km aH)) 0x10e057a81411e7be866cc52f25d6df74f79002f7e5810665d9a801364afb04dd9cca493b5616526035f285796a5e2d5d30229a9e74e8f8805c46276d4157b88b6ecd9611b5df63da49a48cfe5f9be76f12429b0e2860d func17
def abi:aC E ⟨217,[.v kJ],[.bool],Eg⟩:=aI (aj FM aH) 0x30a5214c0d func217
def FG:aC E ⟨133,[.v lE],[aD],tb⟩:=aI (aj abi aH) 0xdd7ff49089a231007afee5752252d7622a0dbbe989d68087900b4c0d func133
def ac2:aC E ⟨98,[.v lE,.v aD,.v aD],[c6],vk⟩:=aI (aj FG aH) 0x137fa01285e44d1e0174c2860d func98
def acX:aC E ⟨79,[.v c6],[.bool],Ee⟩:=aI aH 0xd func79
def Kl:aC E ⟨27,[.v c6],[cL],pn⟩:=aI (aj acX (aj r4 (aj v7 (aj FM aH)))) 0xb408ac93c00cf40f9bcce9b6c0d func27
def ac1:aC E ⟨97,[.v cL],[cL],D5⟩:=aI (aj r4 (aj qO (aj Bq aH))) 0x2771e6eff1011974c90a38b2ee992d3a3536c0d func97
def Rb:aC E ⟨69,[.v (.a8 .c9 cL)],[cL],Aq⟩:=aI (aj r4 (aj v7 (aj qO (aj oO (aj Bo (aj Bn aH)))))) 0x5ef36a8170566dd971c5e3f17348993db00bc7a6c1a048eb9c9a982f70aca57b3c95080ddcf836d5d93ab4ffc6fdddffa3e1d10ac5f809b17b674cba0738ba3964f7a46ce9335ed7b7e9b677c332649519e81694b3490a6c0d func69
def aaj:aC E ⟨100,[.v lE,.v aD,.v aD],[.bool],Ax⟩:=aI aH 0x137fa01285e44d1e0174c2860d func100
def acv:aC E ⟨38,[.v kJ,.v aD,.v aD],[w3],Af⟩:=aI (aj Rd (aj ac2 (aj ac1 (aj Kp (aj Rb (aj Kl (aj Qz (aj yn (aj aaj aH))))))))) 0x4ce372c987b2f21ede14ce3467d7e176e19fa372f70820edf0023def0574b749658b4e7610a3217b2c22e8f0feaeaf4690e3b9222f2b490685f125798480478fc44e135908c9f143ab2e1efe1e7e0f395aab11a0adf7fae26f9c541f0655c62508e256a0ac2b87a96df92c35b418f15c81d04cf731d7922bb4d986501359c5f77abda0409b650eef740c43a0158921afa52653b55c830b515e8c62ac37611b5ded3b6255c8cfcdf6be770e1d5ca48536c2860d func38
def aaU:aC E ⟨18,[.v kJ,.v aD],[hf],Ag⟩:=aI (aj Km (aj yn aH)) 0x234ec7fd89867c4437f42bce11987e021f92218c37bd4e5bee93d36ad1574e1189dd0058e85a1536b71dbe925704be32809846be9bf06b27a6e88228e95f2d642f65464c965222429b060d func18
def Qq:aC E ⟨134,[.v lE],[qf],Aw⟩:=aI (aj FG aH) 0xfef023d260ad6452e7260cf4f48a8d7162a9b99f4bacd37e17178bb3f493cb5e0eaea4879c5f018bbb47e69cbd7bc50fe8bb0c11d96cd7f708e754d2990578536c0d func134
def aaE:aC E ⟨135,[.v aD,.v aD,.v (.a8 .c9 oy)],[w3],Ej⟩:=aI aH 0x371ff193cf3fc0cfa1ec98b307b3cbf2d6fa702fc971a6f1f888186cacebc9f94f755502e7a86885ecf97108422cf8c7ae7e63cea7efbf91c939942949dd4fea69c14e5839cdd4a34be939203e47f66450564cd6d2e720d4b74ab61df1649acbb487a9e98b15c332d335c5ac269e43b625815c8c0cdf6be770e1d5ca48536c2860d func135
def acG:aC E ⟨51,[.v lE],[uL,aD],vl⟩:=aI (aj aaE (aj Qq (aj FG aH))) 0xf150cdfe5fe3a923bcd72fea59a722058eaacb1254ce4166d1c772db8cc8e784be87ac5ecd2272bc29b6c0d func51
def Qr:aC E ⟨136,[.v aD],[w4],AA⟩:=aI aH 0xdfc82467e0d9fb84722a694c90a6c0d func136
def Qs:aC E ⟨137,[.v (.a8 .c9 (.a8 .c9 .bool))],[Cr],Ay⟩:=aI aH 0x2fa291a1920f6ec8c280bc232e3965453e53d6c324c10abd6cc97b98d778430dac0269ceedd3dd9d281659a5cdefa49bf489d1800774521ac312d619e7e33cb5c33230451508a1e694b3490a6c0d func137
def acH:aC E ⟨52,[.v lE],[pb,aD],vo⟩:=aI (aj Qs (aj Qr (aj Qq (aj FG aH)))) 0x6cf78da74f226906f4ea204e6f85ca6b4eb16595fcf7eb4861a59d716cb636ae5b71991c9091d0f58bd9a451e14db6c0d func52
def abh:aC E ⟨212,[.v fq],[.bool],DW⟩:=aI aH 0x30a5214c0d func212
def QM:aC E ⟨214,[.v fq,.v aD],[.bool],Ah⟩:=aI aH 0xc414853060d func214
def J6:aC E ⟨138,[.v l5],[aD],xO⟩:=aI (aj QM (aj abh aH)) 0x21b3ec802cac4b24b608f396b0c3542a578536c0d func138
def aaF:aC E ⟨139,[.v fq,.v aD],[.bool],DY⟩:=aI aH 0xd89480d660c5e9f759579d61bf8532f9214db060d func139
def abj:aC E ⟨218,[.v fq,.v aD],[.bool],Ek⟩:=aI aH 0x4f6b0c414853060d func218
def abk:aC E ⟨219,[.v fq],[.bool],Em⟩:=aI (aj QM aH) 0x30a5214c0d func219
def QN:aC E ⟨220,[.v l5],[w4],Az⟩:=aI aH 0xb703efaaa9936cfb20a10e668944cb1d7bbc4ba8b9a6bd8625b2d4652391b40b242a578536c0d func220
def aaG:aC E ⟨140,[.v l5,.v fq],[pb,aD],En⟩:=aI (aj QN (aj abk (aj abj (aj J6 (aj Qs (aj Qr aH)))))) 0x1c6a8d6b90b7d9b4a14910fa08291137b6378284e37216ceb0a252989437ace3f34a19308f1a6ddc4598817dd8fbd12093b2d9732d5d489452393323a36e1c3648bbc29b6db060d func140
def acI:aC E ⟨53,[.v l5,.v fq],[pb,aD],tc⟩:=aI (aj aaG (aj aaF (aj J6 aH))) 0x1bc2423828060d func53
def aaH:aC E ⟨141,[.v l5],[He],Eo⟩:=aI (aj QN aH) 0x4ca507872a7daa731a2232cab0fd68412cdb299cf06a9b3733afa94e51321d3ffc580b32e81d4c0d func141
def Qt:aC E ⟨142,[.v (.ptr .c9 (.st (.pr (.a8 .c9 (.a8 .c9 .bool)) (.pr (.a8 .c9 .bool) .nil)))),.v aD],[he],AC⟩:=aI aH 0x37b000383e5fe082858959575560c7711810a65f2429b060d func142
def aaI:aC E ⟨143,[.m He,.v aD],[],AB⟩:=aI (aj Qt aH) 0x10b27fa69338092a4b941ed211787e1ab7e378c6572663404371af2155fa3e0af9c3200e80ea256f3568ed84a33a765ade3c24123285034082439e14c1d func143
def acJ:aC E ⟨54,[.v l5],[(.osl hf),aD],AD⟩:=aI (aj aaI (aj Qt (aj aaH (aj J6 aH)))) 0xfc11063dcb87bbaa7f1b023ddd77232fd2750a42b1937c82bc29b6c0d func54
def aaD:aC E ⟨13,[.v lE,.v fq,.v kJ],[G9],xF⟩:=aI (aj Km (aj acJ (aj acI (aj acH (aj acG aH))))) 0xb84d09814cb6d4647c12a16f58aadc57e142c0551a3acf0dcb222d39d5c4a9ba193d41e123cf43ce0f83692017bbfb59a59df8fdcb84f68a1d765e310b27c1368e60c868da2d735c6a4c7c7b8a9c4b64aee2f9dbe0b39efeee53de6b7d1c218e2585fc3332690c08f0961b323db7a2d5d8eccb14da8df8e11887ef90e36a0d9979908fa5799a09dc2faf449786faf32dc30ff0c2d34f28886c0f1104c5b0480a2e56620f2b6ac48e5ad31eea72125e4bc29b6db6c2860d func13
def aai:aC E ⟨10,[.v kJ,.v aD,.v aD,.v .bool],[uL,hf,G9],DZ⟩:=aI (aj acv (aj aaU (aj Qz (aj yn (aj aaD aH))))) 0x40e4afd9160b85a364550d5b20bb82e4a853de9658b0c052530022493fbcfc98b7149c40c6e4d6e9f902fa8a5f4ce17862936c38a0d func10
def aaW:aC E ⟨182,[.v aD,.v aD,.v aD],[.bool],DH⟩:=aI aH 0x2860d func182
def QL:aC E ⟨211,[.v aD],[.bool],s2⟩:=aI aH 0xd func211
def Kf:aC E ⟨200,[.v aD,.v aD],[.bool],u2⟩:=aI (aj QL aH) 0x60d func200
def abA:aC E ⟨252,[.v fq],[.bool],DO⟩:=aI (aj Kf aH) 0x30a5214c0d func252
def aaX:aC E ⟨183,[.v lE],[.bool],DF⟩:=aI (aj abA aH) 0xc4e38401d66b93f29e80930b3bf78f127d54e40fbd6eac4b248cdff8c5060d1e00b4c0d func183
def Kd:aC E ⟨194,[.v c6],[aD,c6],xu⟩:=aI aH 0xd func194
def v2:aC E ⟨147,[.v c6],[.bool],ph⟩:=aI (aj Kd aH) 0xd func147
def aaZ:aC E ⟨185,[.v c6],[.bool],H5⟩:=aI (aj v2 aH) 0xd func185
def abB:aC E ⟨253,[.v kJ,.c 185 []],[aD],H7⟩:=aI (aj aaZ aH) 0x3195177853060d func253
def aaY:aC E ⟨184,[.v kJ,.c 185 []],[.bool],DI⟩:=aI (aj abB aH) 0x60d func184
def FF:aC E ⟨101,[.v lE],[aD],s8⟩:=aI (aj aaX (aj aaW (aj aaY aH))) 0x67b600800a7b34c0d func101
def aak:aC E ⟨102,[.v fq,.v aD],[he,.bool],Ez⟩:=aI aH 0x24ba7e56d00a13fd1c6e649549b74dff84c188d32f8afd54b1020cf3dcc1d7726fed04fe9ab949db0f0a6db060d func102
def QD:aC E ⟨186,[.v lE],[qf],xD⟩:=aI aH 0xffa42fc666439e93c588aef5307a40487df8decb96c7d388140c83212c38c63dac169e0af80c5dda3f34e5ebde287f45d879e23ce5ba6bfb8473aac94c8b4af0a6c0d func186
def abZ:aC E ⟨290,[.v (.a8 .c9 oy)],[qf],H6⟩:=aI aH 0x68a00d func290
def J5:aC E ⟨122,[.v aD,.v aD],[aD],u1⟩:=aI (aj QL aH) 0x60d func122
def ab1:aC E ⟨293,[.v fq],[aD],CV⟩:=aI aH 0x632a2d9d6f0a6c0d func293
def Q5:aC E ⟨292,[.v oy,.v oy],[aD],xE⟩:=aI (aj ab1 (aj J5 aH)) 0x44484baca6d40def2b0df6a0133753060d func292
def ack:aC E ⟨329,[.m qf,.v aD,.v aD,.c 292 []],[],Ae⟩:=aI (aj Q5 aH) 0x1fdca31dde7cb0d8bf34bc3c1d304081ba01abde156dcc56a12968308e8d4d148233fc240beae1c265119b1fcee01a7912ec06fb61d06a528c369ed21e670c0613412180c2c38a1d func329
def acm:aC E ⟨330,[.m qf,.v aD,.v aD,.v aD,.c 292 []],[],DV⟩:=aI (aj Q5 aH) 0x618d4d1092b124cd52f05993a6e2203a40c66b8b14bd9add5ea5af44781cf15546dae1a825886c2242b82dc7ebc6c7ab7ca64629fd4829c93800280de8bcc5ca1238a1d func330
def aca:aC E ⟨314,[.m qf,.v aD,.c 292 []],[],If⟩:=aI (aj acm (aj ack aH)) 0x37989f703c821cbbc5f48089b3c0428d79ba2d5bd4a208b73ed8741a93cb0db19d4a09848e70d93620914769b0a1d func314
def ab0:aC E ⟨291,[.m qf,.c 292 []],[],Ic⟩:=aI (aj aca aH) 0x1d func291
def abC:aC E ⟨254,[.v (.a8 .c9 oy)],[qf],DG⟩:=aI (aj abZ (aj ab0 aH)) 0x0 func254
def aa0:aC E ⟨187,[.v aD,.v aD,.v (.a8 .c9 oy)],[w3],DE⟩:=aI (aj abC aH) 0x959d45da31ed7102809b9a0142053dc3f335aaee3b3355322320a652b1454f9e264022e136aa17af72e9088f5dbbd5332351d063bfd0f6d35eac33b7abac4c38a38504bc0fac0b2f6f07869dc2f816bcd5c9b5f959c9031e7f90692baab0b010c0f72fb6bd57bf8332d723fb3cbf7683cee3680f113a5618198a33039496922ae51ed9585e0a97f9af0bc7eee3ea155817ed8e712dcef21db00ae4745efb5f3faaceae5276f0a6c2860d func187
def aal:aC E ⟨103,[.v lE],[uL,aD],DD⟩:=aI (aj aa0 (aj QD (aj FF aH))) 0x1df4337f97f3c33500e9d4b34e440b6203aab2c6b1d5349e5d368e3b96dc664743c784be87e89adecd2632bc29b6c0d func103
def QE:aC E ⟨188,[.v aD],[w4],zS⟩:=aI aH 0xc169ba8367ee11c8ab853234f0a6c0d func188
def aa1:aC E ⟨189,[.v lE],[qf],DC⟩:=aI (aj QD (aj FF aH)) 0x345b8600d func189
def QG:aC E ⟨190,[.m w4,.v aD,.v aD],[],zV⟩:=aI aH 0x1b90811b875b96fba90abaafbe04f9b237bf78113530a1d func190
def abD:aC E ⟨255,[.v (.a8 .c9 (.a8 .c9 .bool)),.v aD],[he],C7⟩:=aI aH 0x948004acb192e60c7711810d05f24c1bc29b060d func255
def QH:aC E ⟨191,[.v (.a8 .c9 (.a8 .c9 .bool))],[Cr],zU⟩:=aI (aj abD aH) 0x19b0646c8aac2424bc2bfce5b728325d2f1d7610c5e59c1ac58db9c2ae34926b4bfe5b98679f8cf2d70cc8c114542287c452cd240f0a6c0d func191
def aam:aC E ⟨104,[.v lE],[pb,aD],zR⟩:=aI (aj QH (aj QG (aj aa1 (aj QE (aj FF aH))))) 0x1cf822550ff7d77877ce66f6c1b636ae5b7199653012123a1e02ab737b34a9bc29b6c0d func104
def aa5:aC E ⟨197,[.v fq,.v aD],[.bool],C8⟩:=aI aH 0x13f44846cbb9863e60a39d3c29b060d func197
def aa8:aC E ⟨201,[.v aD],[.bool],DS⟩:=aI aH 0xd func201
def J4:aC E ⟨113,[.v fq,.v aD],[aD,.bool],vd⟩:=aI (aj aa8 (aj Kf aH)) 0x1098cc9b28a3b4db060d func113
def QI:aC E ⟨198,[.v l5,.v aD,.v aD],[.bool],xv⟩:=aI (aj J4 aH) 0x8e0e02860d func198
def Qo:aC E ⟨107,[.v l5],[aD],zQ⟩:=aI (aj QI (aj aa5 aH)) 0x4bd4d424fd40bed2a076cf69658e6c3a9308c83eeb40b7f36760e07f7730cdd4d51aa578536c0d func107
def abG:aC E ⟨258,[.v l5,.v aD],[.bool],Db⟩:=aI aH 0x23828060d func258
def abT:aC E ⟨280,[.v c6],[aD],Nw⟩:=aI aH 0x209746502b745dc039f07d3 func280
def QK:aC E ⟨210,[.v c6],[aD],DA⟩:=aI (aj abT aH) 0xd func210
def acq:aC E ⟨336,[.m he,.v aD,.v aD],[],DR⟩:=aI (aj Kf aH) 0x38a4b03519c13a64e224dcdca5ab1d58671f6a6e5efc15ef57660e8f36506b24e15fd6d5d47412c43611215352028144b5ef00d873e014130d9eb4879003018400466030b0a1d func336
def acn:aC E ⟨332,[.m he,.v aD,.v aD,.v aD],[],DU⟩:=aI (aj acq aH) 0xa037a2f317458008e9a7451b130b0185b func332
def acb:aC E ⟨316,[.m he],[],Ad⟩:=aI (aj acn (aj QK aH)) 0x0 func316
def T6:jO:=⟨259,[.v fq],[.bool],Da⟩
def abH:aC E T6:=Ma.afW bn (sort:=λd=>(Ad (d,())).map λa=>a.1) (λe f b=>by obtain⟨a,c,rfl⟩:=fG.1 b;exact acb.2 (e,()) a c)
def abF:aC E ⟨257,[.v aD,.v Cs],[.bool],HX⟩:=aI (aj abG aH) 0x60d func257
def ab2:aC E ⟨294,[.v fq,.c 257 [Cs]],[aD],Ia⟩:=aI (aj abF aH) 0x3195177853060d func294
def abE:aC E ⟨256,[.v fq,.c 257 [Cs]],[.bool],DM⟩:=aI (aj ab2 aH) 0x60d func256
def aa2:aC E ⟨192,[.v l5,.v fq],[aD],C6⟩:=aI (aj abH (aj Qo (aj abE aH))) 0x23828060d func192
def aa3:aC E ⟨193,[.v l5,.v fq],[pb],C9⟩:=aI (aj QI (aj QH (aj QG (aj QE aH)))) 0x18715cf7c5789cb2c9b69bf02e37c46b3d0ab0d91a67ec23bf03771115205fd4aab44e10616d60f396e96c6d5d46e452392123a37717b64961143c29b060d func193
def aan:aC E ⟨105,[.v l5,.v fq],[pb,aD],zT⟩:=aI (aj aa3 (aj aa2 aH)) 0x1bc2423828060d func105
def mi:aC E ⟨226,[.v fO],[fO],iP⟩:=aI aH 0x1a28f318a51a6c0d func226
def tT:aC E ⟨239,[.v .bool,.v fO],[cS],md⟩:=aI (aj mi aH) 0x21200d func239
def FI:aC E ⟨168,[.v aD],[cS],u7⟩:=aI (aj tT aH) 0xdf530f0123de5733a6c0d func168
def aa4:aC E ⟨195,[.v c6],[.bool],C4⟩:=aI aH 0xd func195
def FL:aC E ⟨240,[.v fO],[lD],ve⟩:=aI aH 0x10a00d func240
def Ke:aC E ⟨196,[.v cS],[cS],s5⟩:=aI (aj FL (aj tT aH)) 0x13eff81bf3c519fa4e0f047e9e9ffe2c0dd4c0d func196
def Kb:aC E ⟨177,[],[cL],zN⟩:=aI aH 0x608 func177
def abn:aC E ⟨222,[.v cS],[cS],Df⟩:=aI (aj FL (aj tT aH)) 0x2e8f139fdf62eff0bf10f98af03cb94add4c0d func222
def yl:aC E ⟨149,[.v cS],[aD],qs⟩:=aI (aj mi aH) 0x58600d func149
def QO:aC E ⟨223,[.v cS],[aD],zX⟩:=aI (aj QS aH) 0x18db00319516d1e14c0d func223
def abU:aC E ⟨282,[.v fO],[aD],z1⟩:=aI (aj Ki aH) 0xd func282
def FK:aC E ⟨224,[.v cS],[aD],s4⟩:=aI (aj abU (aj mi aH)) 0x58600d func224
def Q3:aC E ⟨286,[.v fO,.v aD],[fO],xz⟩:=aI (aj mi aH) 0x25561a988284004635c91aca8599e2f0a6db060d func286
def ab9:aC E ⟨313,[.v fX],[.bool],HY⟩:=aI aH 0xd func313
def acj:aC E ⟨328,[.v fO,.c 313 []],[aD],Ib⟩:=aI (aj ab9 aH) 0x3195177853060d func328
def ab8:aC E ⟨312,[.v fO,.c 313 []],[.bool],Ab⟩:=aI (aj acj aH) 0x60d func312
def Q4:aC E ⟨287,[.v fO,.v aD],[fO,.bool],zZ⟩:=aI (aj mi (aj ab8 aH)) 0xbbe80961156045d82d18e7622afa3a37fab0b3f09b34a95aa7f65628436c8eb47c82b9eb684db060d func287
def Kk:aC E ⟨245,[.v fO,.v fO],[fO],xy⟩:=aI (aj mi aH) 0xdb4c17e506b0084181cf87f15780fd690b822cf56a736a694e64aef79d79b0e0d1f4400542702a07d3 func245
def QU:aC E ⟨247,[.v cS,.v aD],[cS,aD],rC⟩:=aI (aj Q4 (aj Q3 (aj Kk (aj tT (aj mi aH))))) 0x2c0d40b7824f6784d8b1f0638b6aed0c267a5d26b10ad4f50c1e4140483ac0dd20c78ab926cc6453060d func247
def QP:aC E ⟨225,[.v cS,.v aD],[cS],zO⟩:=aI (aj QU aH) 0x12a206e95ad94ccb18d26e4798ccc8a34c0d func225
def Bm:aC E ⟨148,[.v cL],[cL,.bool],qr⟩:=aI (aj QP (aj FK (aj QO (aj abn (aj Kb (aj yl aH)))))) 0x1326d3dddf3a6b7574272efdf39dec77aaf10f35f74536fe341c5335c93633cc66684b4db6c0d func148
def FH:aC E ⟨167,[.v cS,.v aD],[cL],u3⟩:=aI (aj Bm aH) 0x196325628060d func167
def qN:aC E ⟨106,[.v c6],[cL],k4⟩:=aI (aj Ke (aj aa4 (aj Kd (aj FI (aj FH aH))))) 0x4b1eed0378d36dc666172033de6f513426c0d func106
def acw:aC E ⟨39,[.v lE,.v fq],[(.ptr .bg w6),aD],td⟩:=aI (aj qN (aj aan (aj aam (aj aal (aj aak (aj FF aH)))))) 0x5018ebc57ea0905347e1dabe17afcc003ed06288a63946180f7ee1f5c9b4cbb46d42b47ca54170347b73464365fea0eba37415b76f300aa73978eec5622fcfde5343ed275965c844335fe446172956de91f65cb8a27fd6f0273e4889c47fcd3fc925964538d48400b05bd924b4e5415880f4eb014fae491d978b4fb45d4b0aba88dd274cdd4b44d0b55f578d602ddfa21edc28a626132d9ede1c31fd9acfec65d79dbfe4a5d606f1be309200dd565cb46a6db6db060d func39
def ab3:aC E ⟨299,[.v c6,.v c6],[c6,c6],DB⟩:=aI aH 0x60d func299
def abI:aC E ⟨260,[.v c6,.v c6],[c6,c6],H4⟩:=aI (aj ab3 aH) 0x60d func260
def aa6:aC E ⟨199,[.v fq,.v aD],[he],DP⟩:=aI (aj abI aH) 0x4f1df1c7b43d69ee5cbeb6acff078e0b6c79603b14c9a2997259069be51e39053060d func199
def aao:aC E ⟨108,[.v na,.v aD],[he,.bool],Ew⟩:=aI (aj aa6 aH) 0x8c6b0a4915c00bd6692471aa627386d879118613a822be88c5866006e60ebb93013c46523febc29b060d func108
def aaq:aC E ⟨110,[.v pa,.v aD],[.bool],Ey⟩:=aI aH 0x29886fc0076f4bdfe95654edcc34053e6b0a1e14db060d func110
def aas:aC E ⟨112,[.v na,.v fq,.v pa],[.bool],Ex⟩:=aI (aj J4 aH) 0x313b180181daa81aac5eb8bc29b6c2860d func112
def aap:aC E ⟨109,[.v pa,.v (.ptr .c9 aD)],[.bool],Ii⟩:=aI (aj aaq aH) 0x57828060d func109
def aat:aC E ⟨114,[.v na,.c 109 [(.ptr .c9 aD)]],[aD],H8⟩:=aI (aj aap aH) 0x3195177853060d func114
def acy:aC E ⟨41,[.v na,.c 109 [(.ptr .c9 aD)]],[.bool],DJ⟩:=aI (aj aat aH) 0x60d func41
def aar:aC E ⟨111,[.v pa,.v (.ptr .bg na),.v (.ptr .c9 hf)],[.bool],Ij⟩:=aI (aj aas aH) 0x15e0e02860d func111
def aau:aC E ⟨114,[.v na,.c 111 [(.ptr .bg na),(.ptr .c9 hf)]],[aD],H9⟩:=aI (aj aar aH) 0x3195177853060d func114
def acz:aC E ⟨41,[.v na,.c 111 [(.ptr .bg na),(.ptr .c9 hf)]],[.bool],DK⟩:=aI (aj aau aH) 0x60d func41
def acx:aC E ⟨40,[.v l5,.v na],[aD],vp⟩:=aI (aj J4 (aj aao (aj Qo (aj acz (aj acy aH))))) 0x18150ea83acfc35258f27581a39e74c5d1369b7838268caf65751e1fd1a083817c0984d9ac0bda67784ece531e9c3d2cdb68776d62592527f0e85fd0587d05d021347c83152d55954536db060d func40
def aaw:aC E ⟨115,[.v pa,.v (.a8 .c9 kI)],[he,aD],Dw⟩:=aI aH 0x6fc9e5f6e37f070ceaf6e7f98519f8018dcd9410b424c3745a1cc734aace3ce5b983aee4604f5994948b43c29b060d func115
def aax:aC E ⟨116,[.v (.ptr .c9 (.st (.pr aD (.pr l5 (.pr (.a8 .c9 (.fB .c9 cL)) .nil))))),.v aD,.v aD],[cL],xP⟩:=aI aH 0x19a02860d func116
def aa9:aC E ⟨202,[.v fq,.v aD],[aD],Ac⟩:=aI aH 0x3195177853060d func202
def Ka:aC E ⟨172,[.v cL,.v cL],[cL,cL,.bool],xp⟩:=aI (aj Bm aH) 0x16dfd661c5ccb66bde98b8a9221192db268d4db060d func172
def FJ:aC E ⟨180,[.v cS,.v aD],[cS],pg⟩:=aI (aj QU aH) 0x848060d func180
def QB:aC E ⟨173,[.v cL,.v cL],[cS,cS,aD],zM⟩:=aI (aj FJ aH) 0x9093705ab462aadc7bbb83df416ea3999ba9b060d func173
def ab7:aC E ⟨311,[.v fX],[.bool],CW⟩:=aI aH 0xd func311
def abV:aC E ⟨284,[.v fX,.v fX],[aD],CU⟩:=aI (aj ab7 aH) 0x60d func284
def Kj:aC E ⟨241,[.v fO,.v fO],[aD],xw⟩:=aI (aj abV (aj J5 aH)) 0x620a429b060d func241
def QT:aC E ⟨246,[.v fO,.v fO],[fO],xx⟩:=aI (aj mi aH) 0x913b594e402c0809a80b1171f56a736b342e69c77118d0dc7d3ef92c25e14db060d func246
def Kc:aC E ⟨179,[.v cS,.v cS],[cS],u6⟩:=aI (aj QT (aj Kk (aj Kj (aj tT (aj mi aH))))) 0x398267c5e5cb421c0bf15ec412370d6777027b00ff919578eb969b060d func179
def QA:aC E ⟨170,[.v cL,.v cL],[cL],zJ⟩:=aI (aj Kc (aj Kb (aj QB (aj Ka (aj FH aH))))) 0x21e434648060d func170
def aay:aC E ⟨117,[.m sM,.v kI],[],Do⟩:=aI (aj aa9 (aj QA aH)) 0x4d7eb7f7388a0e93d703f0f116e0d1ca88071de5398f98e789e7b619828025835f549337c3d2b21f3062a44aacb349de825ddc5800acc277de6dac0e127e483ada7b8e7ebc41feabe5600fa57752de1e93180e54aff3e888d164af718ffc3bbc7e83d634c2a36dea5612b34904e3c02256e87fd5be3fa3d944d6a8e9003feae5ec8ef5cc154e4ca4246038d0fd2c6093b61e14c1d func117
def acC:aC E ⟨43,[.v (.ptr .c9 (.st (.pr aD (.pr l5 (.pr (.a8 .c9 (.fB .c9 cL)) .nil))))),.v pa,.v (.a8 .c9 kI)],[sM,aD],Dm⟩:=aI (aj aay (aj aax (aj aaw aH))) 0x79006c4a046b69142cf4fcfd2c095d0c411aff892803a8c831265f9cdf6f83a8c271127dd76b6ea4e1d5f411ebaf3515246d2f593130c451b113bbcd932e301e093c0987fc92005beca2b4328551ca1cba4c9f02122774d5d1e4b75954bb2b0648659be252c7745276b646b749c3ad22a4ae89b9cb78324ca13dc8377d85df53cd56c04492c64f64a4c4e7055a10bcc24f6321c66a40764cb4cd9b6847dd7f3c2950194a4a312761443e7a1f750295ac96edb79a0436c50afaa0438e8f9c9eb17551c278591d7cff4adb627b34bad079d86a39429046b7f389a52a0a3756dfd776285f33ef3ca4da4f46f88c874a6da31e860073087cc0eca1a3070c6b1d28fe13b2d59a1382001406f45e62e536c2860d func43
def FO:aC E ⟨83,[.v aD],[cL],rB⟩:=aI (aj FI (aj FH aH)) 0x18a00d func83
def Qy:aC E ⟨166,[.v cL],[cL],xn⟩:=aI (aj Bm aH) 0x18a00d func166
def yo:aC E ⟨61,[.v cL],[aD],pf⟩:=aI (aj yl (aj Bm aH)) 0xd func61
def J9:aC E ⟨169,[.v cS],[cS],u5⟩:=aI (aj FL (aj tT aH)) 0x14d10558600d func169
def ab5:aC E ⟨302,[.v cL],[rp],HW⟩:=aI (aj J9 aH) 0xacaa17150fde9cdd00cdd4c0d func302
def acd:aC E ⟨319,[.v rp],[aD],CZ⟩:=aI (aj FK aH) 0x28e0600d func319
def acr:aC E ⟨344,[.v cS,.v cS],[cS],Dg⟩:=aI (aj Kc aH) 0x425628060d func344
def QC:aC E ⟨174,[.v cS,.v cS],[aD],zW⟩:=aI (aj Kj (aj mi (aj yl aH))) 0xb1d628060d func174
def aco:aC E ⟨333,[.v rp,.v aD],[cS,aD,.bool],zL⟩:=aI (aj acr (aj QP (aj FK (aj FJ (aj QC (aj FI (aj yl aH))))))) 0x1c18518eef2bd6b077e5b23133f662829d83973b2b940fafa2c53c00f0fdbddf7b7bff50820b4cea6db060d func333
def acf:aC E ⟨321,[.v rp,.v aD,.v aD],[cS],C0⟩:=aI (aj aco (aj QO (aj Ke (aj FJ (aj Kc (aj FI (aj yl aH))))))) 0x516e67d9c03d4be4b593b527a8a141cf3ec73874347881059210e08bec0ff815cc2e4256ca7579f26ae4cb26c2860d func321
def ace:aC E ⟨320,[.v cS],[aD,.bool],Dd⟩:=aI (aj mi aH) 0xa7c641ad7f1d2d071bccbdff54d885b951b13e8897972bc29b6c0d func320
def Q7:aC E ⟨322,[.v c6,.v .bool],[c6],u4⟩:=aI aH 0x60d func322
def acg:aC E ⟨323,[.v .bool,.v aD],[c6],C5⟩:=aI (aj Q7 aH) 0x8a2dc93060d func323
def Q6:aC E ⟨301,[.v rp,.v aD],[c6],zP⟩:=aI (aj acg (aj Q7 (aj acf (aj ace (aj acd (aj J9 aH)))))) 0x1ea87807b3e04826db060d func301
def abJ:aC E ⟨262,[.v cL,.v aD],[c6],C2⟩:=aI (aj yo (aj ab5 (aj Q6 (aj Qy aH)))) 0x60d func262
def Kg:aC E ⟨206,[.v kI,.v aD,.v aD],[c6],s7⟩:=aI (aj abJ aH) 0x2860d func206
def acc:aC E ⟨318,[.v c6],[aD],C1⟩:=aI (aj Kd aH) 0x107f69059a6c0d func318
def ab4:aC E ⟨300,[.v kJ],[.bool],C3⟩:=aI (aj acc aH) 0x316513c5e14c0d func300
def QX:aC E ⟨261,[.v c6],[c6],xq⟩:=aI (aj ab4 aH) 0xd func261
def Rc:aC E ⟨86,[.v cL,.v cL],[aD,.bool],zK⟩:=aI (aj QC (aj QB (aj Ka aH))) 0x444878060d func86
def aba:aC E ⟨203,[.v kI,.v aD],[cL,aD,aD],z9⟩:=aI (aj Rc (aj FO (aj QX (aj Kg (aj v2 (aj qN aH)))))) 0x588fc0c7e46989ff34ea4ff874136a293cca76335cc91c70abeda2e0d06c6e658ea48ba045260ed1b7d1c9ab649c3c29b060d func203
def abb:aC E ⟨204,[.v kI,.v aD],[cL],z6⟩:=aI (aj QX (aj Kg (aj qN aH))) 0x648060d func204
def abv:aC E ⟨244,[.v fO,.v fO],[fO],Dj⟩:=aI (aj mi aH) 0x2fc9a11e020c623fde3ecd3f4be637e9993a2a0976f654c3424c58967aaca694e303fe3afed168f9093060d func244
def aaT:aC E ⟨178,[.v cS,.v cS],[cS],De⟩:=aI (aj abv (aj tT (aj mi aH))) 0x38bc3f495bb3d89730d0333753060d func178
def yp:aC E ⟨90,[.v cL,.v cL],[cL],nQ⟩:=aI (aj aaT (aj Kb (aj Ka (aj FH aH)))) 0x1319ea9cf458ab1896b6ab26818f4fdfafcf5929aad2401baacb968d4db060d func90
def abc:aC E ⟨205,[.v cL,.v cL],[.bool],xA⟩:=aI (aj yp (aj Rc (aj FO aH))) 0xe1dc28060d func205
def aaz:aC E ⟨118,[.v kI],[he,aD],Dp⟩:=aI (aj yp (aj yo (aj abc (aj abb (aj aba aH))))) 0x95245812a0a3df38ebf57b4ecb1a4babfe744d44e861e3a90899d7d2f6ef9cda1db9a3f8a9e0152b992392b3730cb94b1e14c0d func118
def QY:aC E ⟨263,[.v kI],[he],Aa⟩:=aI aH 0x5e8002f94f0ae607ee1180abe5323af0a6c0d func263
def act:aC E ⟨350,[.v fO,.v fX],[fO,fX],Di⟩:=aI (aj mi aH) 0x10230b9c413d9c26b918d3b27d6f29214db060d func350
def Q8:aC E ⟨326,[.v fX],[aD],vc⟩:=aI (aj Ki aH) 0xd func326
def T7:jO:=⟨351,[.w fX,.v fO],[fX],zY⟩
def acu:aC E T7:=
 .q aH (.k [1] (.n (.n (.t .none (.d [.b [0],.a,.b [0],.b [0],.a,.a,.b [0],.a,.a,.b [0],.b [0],.a,.a,.a]) (.n (.t .none (.o (.k [5] (.p ⟨[(0,.w 0),(7,.v c6),(8,.v c6)],[(0,lD)]⟩ (.x 0 ⟨[(0,.w 0),(7,.v c6)],[(0,lD)]⟩) (.t (.wD [7,8] ⟨[(0,.w 0)],[(0,lD)]⟩) (.t .none (.d [.a,.a,.a,.a,.a,.a,.a,.a,.a,.a,.a,.a,.a,.b [0],.a,.a,.b [0],.b [0],.a,.a,.a,.a]) .l) .l)))) (.n (.t .none (.n (.o (.k [5,7,84,85] (.p ⟨[(0,.w 0),(9,.v c6),(10,.v c6),Lw 86],[(0,lD)]⟩ (.x 2 ⟨[(0,.w 0),(9,.v c6),(10,.v c6)],[(0,lD)]⟩) .l)))) (.n (.n (.n (.n (.t .none (.n (.o (.k [5,7,140,141] (.p ⟨[(0,.w 0),(9,.v c6),Lw 142],[(0,lD)]⟩ (.x 4 ⟨[(0,.w 0),(9,.v c6)],[(0,lD)]⟩) .l)))) .l))))))))))))) func351 call351
def acs:aC E ⟨345,[.v fO,.v fO],[fO,fO],Dh⟩:=aI (aj acu (aj act (aj Q8 (aj Q4 (aj Q3 (aj Kj (aj FL (aj mi aH)))))))) 0x18aeeeedfec8ea0182e7212c918b4d25c414f669368a4637e66e53e6c922f3a78536db6db060d func345
def acp:aC E ⟨334,[.v cS,.v cS],[cS,cS,aD],Dc⟩:=aI (aj acs (aj QT (aj Kk (aj tT (aj mi aH))))) 0xf788e0cb21542043b401bc9747f2c0e722a5ad9592864d80a9ce054cf7b632a826db060d func334
def ach:aC E ⟨324,[.v cL,.v cL,.v aD],[rp],CY⟩:=aI (aj acp (aj FK (aj FJ (aj J9 (aj yl aH))))) 0x2d553b25a474298294e1aa7de92eec6701da11a33e060d970ef81ccfc0ebba803338937a0666ea6c2860d func324
def FN:aC E ⟨303,[.v cL,.v cL,.v aD],[c6],s3⟩:=aI (aj yo (aj ach (aj Q6 (aj Qy aH)))) 0x57bd99e6dacfaac797f32a792d67b8db2a141d202d2ede8d4c2860d func303
def Q0:aC E ⟨268,[.v (.a8 .c9 cL),.v cL],[sN],pi⟩:=aI (aj yp aH) 0x3a4a66f7e0931dc46c42f97c8e735bc29b060d func268
def aaS:aC E ⟨171,[.v cL],[cL],CX⟩:=aI (aj Ke (aj Bm aH)) 0x93c00cf192331ba6c0d func171
def Ko:aC E ⟨85,[.v cL,.v cL],[cL],xo⟩:=aI (aj aaS (aj QA aH)) 0x47b452bee004bcf2b753060d func85
def QZ:aC E ⟨267,[.m sM,.v fq,.v (.a8 .c9 cL),.v (.a8 .c9 cL)],[],qt⟩:=aI (aj yp (aj Ko aH)) 0x1df4ec24225ed6d23853449b6ba86f6015a49eb3cc6a16100ebbb3039beafd16394c3c0e945c8fc0bf9d0fb12faad8742398030ddda31ed7b4d0f46d0c0613c13980c36cd2c38a1d func267
def abL:aC E ⟨265,[.v aD],[cL],Du⟩:=aI (aj FO aH) 0x18a00d func265
def abM:aC E ⟨266,[.v kI,.v fq,.c 265 [],.v cL],[w5,sN,aD],HZ⟩:=aI (aj FN (aj abL (aj v2 (aj qN aH)))) 0x110edc05890329cfb891e901349a2b11286e4e1da761e9463519443f16cd2e312022052e81deec4c21f6d3b9d8d628dc0976d2a9bbb4e1eb89ab0af6c30ead0ac6a803630b4c2b01821dc12a599684c3c2b15bad91576eace834e39cc72dd0b848be79179ab611a49992c2ea285d33dd1205e24d51dde14db0e2860d am4
def abK:aC E ⟨264,[.v aD,.v (.ptr .bg kI),.v (.ptr .bg aD)],[cL],Dt⟩:=aI aH 0x32efc6f7e0f204cdd4c2860d func264
def abN:aC E ⟨266,[.v kI,.v fq,.c 264 [(.ptr .bg kI),(.ptr .bg aD)],.v cL],[w5,sN,aD],H0⟩:=aI (aj FN (aj v2 (aj qN (aj abK aH)))) 0x110edc05890329cfb891e901349a2b11286e4e1da761e9463519443f16cd2e312022052e81deec4c21f6d3b9d8d628dc0976d2a9bbb4e1eb89ab0af6c30ead0ac6a803630b4c2b01821dc12a599684c3c2b15bad91576eace834e39cc72dd0b848be79179ab611a49992c2ea285d33dd1205e24d51dde14db0e2860d am4
def abd:aC E ⟨207,[.m sM,.v aD,.v c6],[(.osl mF),aD],Ds⟩:=aI (aj FO (aj yo (aj Q0 (aj QZ (aj QY (aj qN (aj abN (aj abM aH)))))))) 0x8a17e9f13b5ca7b18d7c88dcc46098fd8c3d0a5ca71f7e35ebc60e0916a764cff978abe49c9a29612ec91cb5b47a3f7847c6a35999ce961406ada1da9b0a1d func207
def Kn:aC E ⟨62,[.v (.a8 .c9 cL)],[cL],u9⟩:=aI (aj yp (aj Ko aH)) 0x5ec6547812c55d1cccdd4c0d func62
def Q1:aC E ⟨269,[.v aD,.v aD,.v aD,.v cL,.v cL,.v (.ptr .bg kI)],[cL],z8⟩:=aI (aj yp (aj Ko aH)) 0x1758e808151921459c5a34a403333337531648e2860d func269
def abQ:aC E ⟨270,[.v aD,.v (.ptr .bg (.fn 269 (.pr (.ptr .bg kI) .nil))),.v (.ptr .bg aD),.v (.ptr .bg aD),.v (.ptr .c9 nI)],[cL],Dq⟩:=aI (aj Q1 aH) 0x137b461f07c441ccdd4c48e2860d func270
def abO:aC E ⟨266,[.v kI,.v fq,.c 270 [(.ptr .bg (.fn 269 (.pr (.ptr .bg kI) .nil))),(.ptr .bg aD),(.ptr .bg aD),(.ptr .c9 nI)],.v cL],[w5,sN,aD],H1⟩:=aI (aj FN (aj v2 (aj qN (aj abQ aH)))) 0x110edc05890329cfb891e901349a2b11286e4e1da761e9463519443f16cd2e312022052e81deec4c21f6d3b9d8d628dc0976d2a9bbb4e1eb89ab0af6c30ead0ac6a803630b4c2b01821dc12a599684c3c2b15bad91576eace834e39cc72dd0b848be79179ab611a49992c2ea285d33dd1205e24d51dde14db0e2860d am4
def abR:aC E ⟨271,[.v aD,.v (.ptr .bg (.fn 269 (.pr (.ptr .bg kI) .nil))),.v (.ptr .bg aD),.v (.ptr .bg aD),.v (.ptr .c9 nI)],[cL],Dr⟩:=aI (aj Q1 aH) 0x137b461f07c441ccdd4c48e2860d func271
def abP:aC E ⟨266,[.v kI,.v fq,.c 271 [(.ptr .bg (.fn 269 (.pr (.ptr .bg kI) .nil))),(.ptr .bg aD),(.ptr .bg aD),(.ptr .c9 nI)],.v cL],[w5,sN,aD],H2⟩:=aI (aj FN (aj v2 (aj qN (aj abR aH)))) 0x110edc05890329cfb891e901349a2b11286e4e1da761e9463519443f16cd2e312022052e81deec4c21f6d3b9d8d628dc0976d2a9bbb4e1eb89ab0af6c30ead0ac6a803630b4c2b01821dc12a599684c3c2b15bad91576eace834e39cc72dd0b848be79179ab611a49992c2ea285d33dd1205e24d51dde14db0e2860d am4
def abe:aC E ⟨208,[.m sM,.v aD,.v aD,.v kJ],[(.osl mF),aD],z7⟩:=aI (aj Kn (aj Q0 (aj QZ (aj QY (aj qN (aj abP (aj abO aH))))))) 0x220f838017cabcc38d878864832136ef3705b21222f92856b512d000ac6106dd11d7fd766c0ee7cdd1327c41821491f59bcb4d64e439477f40f33e7f9836363caab8dc72c67b37f903bbd26805f5ced22f4be8a5de809fd2db119dd3276eb914db624487400f6a296a30d4d13e4f43eff5f9c67dbfbaa2f4af39744c7fc7fe6ed2de915ec27b66e93b65d573b6a9d0794e3676424f1cee3b8566c3e45666ea6c38a1d func208
def aaA:aC E ⟨119,[.m (.optr Ct),.m sM,.v fq],[aD],Dx⟩:=aI (aj abe (aj abd (aj Kg aH))) 0x171e5c0d980f51515dfe713bf7bf1998ef583f32159c176172d22ac1c32788fffdecc426808b436db260497d926041bf98c4a80fa01fec211753fdf0aabfa8a69f79cb72448212a619dde991fa5577ac0fdfaa074cc49092bd5c7cfc90a5bff7b9eb418aa8505b5f1fe26481e08e7fb4e56b0bc20f7ce47190fa6dffd26f600515e958bac3d88dac24daebef5c721c25c32a62774a4d804f42e2a2f5291949fdc68d36d942cc33cac69f7622513414d7a452c323f1974748640655bdca2b4516da4356b826ff2b1476bb37c940347b4b3f26b68e74894c355e06c9045feda2aa6a9abf2c8ac32e03fc4c07e34ea4e3a75e8897f0708e30132137ca2d87fb4c742f65f1da0d561896e673f1676d63850054424626a5cd247681d66ac6c1252f0a6c2d func119
def acD:aC E ⟨44,[.m (.optr Ct),.m sM],[aD],Dz⟩:=aI (aj aaA (aj aaz aH)) 0x163fc65b80ff711c9112fdf745fa6cc48f05b0ff526cab8d6482a8d9a3c7cca2139475a43b6b1c24a2126b491da061b048d3 func44
def aaC:aC E ⟨121,[.v aD,.v aD,.v (.ptr .c9 fq),.v (.ptr .c9 mF)],[aD],vb⟩:=aI (aj J5 aH) 0xe2860d func121
def abS:aC E ⟨272,[.m he,.v aD,.v aD,.c 121 [(.ptr .c9 fq),(.ptr .c9 mF)]],[],Ie⟩:=aI (aj aaC aH) 0x1fdca31dde7cb0d8bf34bc3c1d304081ba01abde156dcc56a12968308e8d4d148233fc240beae1c265119b1fcee00a0512ebfc0361cf80528c369ed21e400c0610012180c2c38a1d func272
def abf:aC E ⟨209,[.m he,.v aD,.v aD,.v aD,.c 121 [(.ptr .c9 fq),(.ptr .c9 mF)]],[],DT⟩:=aI (aj abS aH) 0x280de8bcc5d160023ae9d546c4c2c0616c4d func209
def aaB:aC E ⟨120,[.m he,.c 121 [(.ptr .c9 fq),(.ptr .c9 mF)]],[],DQ⟩:=aI (aj QK (aj abf aH)) 0x1d func120
def acE:aC E ⟨45,[.v (.ptr .bg (.st (.pr (.ptr .bg w6) (.pr hf (.pr hf (.pr (.a8 .bg c6) (.pr (.a8 .bg mF) (.pr aD .nil)))))))),.v fq],[G8],Dy⟩:=aI (aj aaB aH) 0x3762376f90e937bf32923b94339d468b45194bf042a6aeca05cb89bb7c97cd05c5c313825edf5c520f44146c996c0adc28cf289677f0dbf2c40a90f48ca0b26f2dda8d320e78181d004631001629b6d22ed9555bd5285a128b6fdd9008a6d7a8aeae178af1497a0a4f3de68d38a5e89276376da3803c6dd1f04123c57ca9f2bbac6ecf2bc22b839735be1e947febc823c6611e57409605c1d08d38e7250e960e829aaa5a950ffbd9448d5bb50806be1d68ab82a4ee0203ccbc94040ba624502865cb2608b5f5a5de5a9da44f79cc5b819e982928b8ded8f98ab1bee883a5a7ca1b0faea441d079e739b17af895fc886812c2b5815132107f3871b458be6862e42bf42a3ebf326fa3f72a76d1848a4860d3fd36a7b8d08063c94eaaf00489cb9e461ae33c99104ae30fa09759129a12140dd5ff3e986df9613916cc559ba9b060d func45
def acB:aC E ⟨42,[.v pa],[.bool],Dl⟩:=aI aH 0x15e0600d func42
def aav:aC E ⟨114,[.v na,.c 42 []],[aD],DN⟩:=aI (aj acB aH) 0x3195177853060d func114
def acA:aC E ⟨41,[.v na,.c 42 []],[.bool],DL⟩:=aI (aj aav aH) 0x60d func41
def Qp:aC E ⟨11,[.v lE,.v fq,.v na],[Cu,aD],s6⟩:=aI (aj acE (aj acD (aj acC (aj acx (aj acw (aj acA aH)))))) 0x677b18c73febb7e95d3b3a249372fb147b80513e233de7947242663d62a9d1511677f54dd058830338ddf58631ab0e77fa81abeee61e96ff9fef94e969ce4734237e9a022aad77438a3798c955b70b7ad012710abc894d2d57d83ef20a4a736b399e524c1df77790bfd5214e2da6eacf9db5712774b5cd062716dba0c4f3b2303f0760772262bf96e2542fa40aeda6599088d058345ee658f9e21dda457264054b1da8a0b49c7d5448172907759c57a78536db6c2860d func11
def acN:aC E ⟨63,[.v fq,.v aD],[.bool],Er⟩:=aI aH 0xd89480d660c5e9f759579d61bf8532f9214db060d func63
def aaR:aC E ⟨164,[.v cL,.v cL],[cS,cS,aD],vj⟩:=aI (aj oO (aj Bo aH)) 0x5699f80d1eec097150bd924eb57b7e0810b977965f213bd417b6307c71a00e450883615928d97be4f301841b0d8c0fb737e2abf97673addc1efa06161f4793c1b95b1df7b488a0d4fff140f2e52b753060d func164
def acY:aC E ⟨80,[.v cL,.v cL],[cL],D6⟩:=aI (aj r4 (aj v7 (aj qO (aj aaR (aj Bn aH))))) 0x14352382663baf7b2d8d482bfbe52b0f77e648441a437650dbc569171ac7ba4ba5a353060d func80
def QW:aC E ⟨26,[.v cL],[aD],Ap⟩:=aI (aj qO (aj oO aH)) 0xd func26
def abo:aC E ⟨228,[.v fO,.v fO],[lD],D4⟩:=aI aH 0x991f1c4b5d2359af0aa155ed3d69cd6217c51417e037f3380b4cead114a2c312d69c77118d0a65f2429b060d func228
def Qu:aC E ⟨152,[.v cS,.v cS],[cS],pj⟩:=aI (aj v5 (aj abo (aj tS aH))) 0xe288c107e707dad256ecf62607a8de5b2b231883fd56f8c90554506d1a3ed3dbbe84c73753060d func152
def Ra:aC E ⟨68,[.v cL,.v cL],[cL],xM⟩:=aI (aj r4 (aj v7 (aj qO (aj Qu aH)))) 0x5bca1a1a1b6fd6b038bdec9319b6dca3b8a73546ea8e3770f3ce3386e406f7b2d8d449157e52b0f77e648441a437650dbc569171ac7ba4ba5a353060d func68
def aci:aC E ⟨327,[.m lD,.v fO,.v aD,.v c6],[.bool],Ao⟩:=aI aH 0xf0a0adeb50e6ebf2ad86f23894c490c05e54378a0ea15fd25fdc59f62befaf164192b53d914ea3ec848c6fcc1d07e5ff17f3048ebc29b6c38a1d func327
def ab6:aC E ⟨310,[.v fO,.v fO],[lD,fO],D3⟩:=aI (aj aci (aj Q8 (aj Kh (aj QR (aj QQ (aj v5 aH)))))) 0x8018533076f68138afa4468455caba646cb0ef5eb57135662362eb2973e27ddf662dc5ad777b9f30707300b87b4fc6760442541cfdcc841408b7aa4b0073435a117078a8d19db7a041ff764ab4512376632f717034e2f76916e989ab7f9572c12fd09144376ae61f132820e232fbfd66ce941ce999e183ebce750674382ea6db060d func310
def Q2:aC E ⟨283,[.v cS,.v cS],[cS,cS],vi⟩:=aI (aj oO (aj ab6 (aj tS (aj Bq (aj J7 (aj Bp (aj ym (aj Bn aH)))))))) 0x30e09c6ce10f7629603d184fa07b598bb7eea1a2f7a71ee86ac9b72798e75c9567854fcc6cbe5057531e509956c92d833ce44cdb0cfcaeb9c2fe9f56e5ac9a0fe103d84f58ba6de0d646b9dc503b1eda889846cd2c3ca4648bc569171ac7ba4ba5a353060d func283
def acZ:aC E ⟨81,[.v cL],[cL],D9⟩:=aI (aj r4 (aj qO (aj J8 aH))) 0x2771e6eff1011974c90a38b2ee992d3a3536c0d func81
def abY:aC E ⟨29,[.v cL,.v cL],[cL],Eb⟩:=aI (aj acZ (aj acY aH)) 0x47b452bee004bcf2b753060d func29
def aaO:aC E ⟨151,[.v c6,.v c6],[cL],AE⟩:=aI (aj Ra (aj Kl aH)) 0x648060d func151
def acP:aC E ⟨65,[.v kJ],[cL],AG⟩:=aI (aj abY (aj aaO aH)) 0x5ec6547812c55d1cccdd4c0d func65
def aby:aC E ⟨25,[.v fq,.v fq],[.bool],DX⟩:=aI aH 0x620a429b060d func25
def acK:aC E ⟨57,[],[uL],Nx⟩:=aI aH 0x1922242481f808 func57
def aaK:aC E ⟨145,[.v fq],[.bool],H3⟩:=aI aH 0x6ba8406adebe0e457cfca803730dfab114c8ffaf0a6c0d func145
def ac0:aC E ⟨91,[.v qg],[he,.bool],Dv⟩:=aI aH 0xc302d214835e59c33ecf5c889fdad5548253bbaa9e0008a59765fa168b78f7c6be4461eb658c806f73051e642149806e533302c922fe578536c0d func91
def aaL:aC E ⟨146,[.v qg,.v fq],[.bool],Dn⟩:=aI aH 0xc64b41340b9ba1fa37e849f6b4d70853c93229cdd3c1682924e1bf1d173eab756259241effc1a8258147968f010a29b060d func146
def Q9:aC E ⟨60,[.v qg],[Mf],z5⟩:=aI (aj qN aH) 0xfa856eb86fb21de77a857001e286685c0e87254506c5130ed865cb76cff709115622d2991ff2578536c0d func60
def acM:aC E ⟨59,[.v qg],[aD],Dk⟩:=aI (aj ac0 (aj Kn (aj yo (aj Q9 (aj v2 (aj aaL (aj aaK aH))))))) 0x628d0a0687afe1cf0c1d85dabb9570da4ab526cca7e92e48a0c96ff0de32fb7937b054bc8304f41a6c650aeee14c948776881bbe89f0904e1825ad7931391e9259175c244eb4043c805a6c0d func59
def QF:aC E ⟨19,[.v qg],[Cp,aD],z2⟩:=aI (aj Kn (aj yo (aj Q9 (aj acM aH)))) 0x2aba805712e59fcc08b81856eaab863ff361f2eea02073e38eea9a6a2ebad14b6e33244aae45c3fa536f6693878536c0d func19
def aaM:aC E ⟨15,[],[.bool],Ai⟩:=aI (aj acK (aj aby (aj QF (aj Qp aH)))) 0x84c21c1c17818 func15
def aaN:aC E ⟨150,[.v fq,.v aD,.v aD],[.bool],Es⟩:=aI aH 0x1285ec7824c2860d func150
def acO:aC E ⟨64,[.v qg],[.bool],Ev⟩:=aI (aj aaN aH) 0xc6440bec08e797d4c76c91160bef021277536c9a960a46986ed844658c9cc843f8fe0d1f202a5a6c0d func64
def QJ:aC E ⟨20,[.v qg],[aD],AF⟩:=aI (aj acP (aj acO (aj acN (aj FM (aj QW aH))))) 0x319102fb6326b5358af59cb81fc93a45d9ed4b5d88a887efa6275a022677a48b05a6c0d func20
def acQ:aC E ⟨66,[.v qg],[zm,zm],Et⟩:=aI (aj Kp (aj Kl aH)) 0xb49fa863cb848e2f71c8c2c894ab8ef0889f284d795c59466a1e93133f1f5906687120cf2124460fb9050280c80d7b0640c19c5842704b0825fb99e97c32d8b2230efff1335f4444a3782f4cda063828006c8e1d7f5fe093dda40320ce43aaa52bb186c5e44e90a21a09885d01ee9d08d0d117afe05da0f4131f278f34e228c9d166b2f17282e91d81bb14a85d995e84a5e5d76f83d02ef527870864bc9b3d6760396d8fa1c7ba711ed45a158c9be436578536c0d func66
def acR:aC E ⟨67,[.v aD,.v aD],[Co],Ep⟩:=aI aH 0x8542b848060d func67
def abg:aC E ⟨21,[.v qg],[Co,aD],Eu⟩:=aI (aj Rb (aj Ra (aj acR (aj acQ (aj QJ aH))))) 0x2cd9854da3319c45c5d0f87f8aa058a75afcb18cb869737dbcbb8f9fa19b722b5c1086149d292c8c1b8d8f47050374cdc62a80b031450a1e061c2270bca15ad3aad704ea790dba95963b69a643b3ab25d86660997d604ea62f00f848ac1585b0f49b57eb6c758eb9acacc7f92461274f9444ba62c35ddaa6181a1fb759889e375d653a4a92b93a46dd4d7989b3e96671eec48b63ee6c824ecb6a4ec2e24cc8f0d207b870cd22d9e2f0a6db6c0d func21
def acW:aC E ⟨76,[.v cL,.v aD],[cL],Ea⟩:=aI (aj r4 (aj v7 (aj qO (aj oO aH)))) 0x1fcc805c6eef5b8eece3cf67d22f9aa40148a6e0c78a66b836c6798cd09b060d func76
def acV:aC E ⟨75,[.v cL],[cS,.bool],D8⟩:=aI (aj qO (aj Bo aH)) 0x20a00d func75
def abp:aC E ⟨23,[.v (.a8 .c9 (.a8 .c9 cL))],[(.osl (.a8 .bg cS))],xG⟩:=aI (aj acW (aj acV (aj qO (aj QW aH)))) 0x1f38e6e2223596d27f4e3a1111ad2bce7a85d582d9cdfa815821141655c4a91138389816c5947fd78cdb240cdb5a1490f117cd823b2d6798c695290a6c0d func23
def acS:aC E ⟨70,[.v (.a8 .c9 (.a8 .c9 cS))],[Me],Eh⟩:=aI (aj Bp (aj ym aH)) 0x5f11910fe05f59406bfc0bebc40b33fff5751fc60022486b0c4b743fb8485aa694c90a6c0d func70
def aaP:aC E ⟨157,[.v l6],[.bool],Av⟩:=aI (aj oO aH) 0x24e0600d func157
def acT:aC E ⟨71,[.v (.a8 .c9 (.a8 .c9 l6)),.v fq],[aD,aD],Ei⟩:=aI (aj aaP aH) 0x356816368a4c4b3238ad00c4d4853060d func71
def abt:aC E ⟨235,[.v cS,.v cS],[cS],D0⟩:=aI (aj oO (aj Q2 (aj Bq aH))) 0x1d333010f3b8aabb8a4ae10dfa1e05fd377e04b0f43926648cbe937219c25d84796b4220374af97e19f88c6c663583812b753060d func235
def abu:aC E ⟨236,[.v cS,.v cS],[cS,.bool],Al⟩:=aI (aj oO (aj Q2 aH)) 0x8790d212b1d628060d func236
def aaQ:aC E ⟨158,[.v cS,.v cS],[l6],Au⟩:=aI (aj oO (aj abu (aj abt (aj J8 aH)))) 0x199b27642e34702b04f01285368d9ed8caa09b060d func158
def acU:aC E ⟨73,[.v l6,.v l6,.v l6,.v l6],[l6],ta⟩:=aI (aj J7 (aj aaQ (aj Qu aH))) 0x852a28119403e248c6057e063ca91af3b652249d58c44c12fe0f35fc9dc3ebed481b3bd1f4d6b531eaf99e4a5d903a033337530e2860d func73
def abl:aC E ⟨22,[.v (.a8 .c9 (.a8 .c9 cS))],[aD,aD,aD],At⟩:=aI (aj acU (aj oO (aj acT (aj acS aH)))) 0x6976b190d50df4cb974629f1fed84ddbdd7f69ebc48a35443d7f30e59b6283eca6a07258d51cf2f4dff2abbea5d35963a4ef49c605b8692f0f9e4be313b38d8f3f0cdf86fc509960197cf2faf870ed872a6afe7ca4aa4e25e322fe30e09becc911ea0a3b34aed95ceab441525124b7e052471c5c3d447aa2865aacc1cba16f410dac7a0587de8699e65d4bd65d232d4a2cddf7746e39c2646e0f19466f12062e6cde48f0f9becdde12999618fe48fd6c91ca9bb9c55faad43ea7e35caae975f3f4214078fda60d2ac60c38098885a5fe7161af562f69f96e83aae23c3de8e22c7ed50da6a0968c3424cac76ad6a3bb28e8f01ec709f32b07a80500a425388c0d570b870df22da3c29b6c0d func22
def oh:jO:=⟨5,[.v kJ,.v aD,.v aD],[.bool],Ih⟩
def acF:aC E oh:=aI (aj abp (aj abl (aj abg (aj QJ (aj QF (aj yn (aj aaM (aj Qp (aj aai aH))))))))) 0x5bc5824c6e75069394dbe2b079b9fbc68ce28b641c2627b94c5c8dbb5c0a3b9fbbb29b2d002ccdeeb7967bfd277121e09ab1dde9f94f58927132730d4e94ed9bd35402af1b9e33f1b6c7d11e960b4fe47e84db6c2860d func5
end
def a2 (a:X):Z:=4294967296^a
def ag:aj6->Z
 |[]=>0
 |x::a=>x+4294967296*ag a
def aR (b:aj6):Prop:=∀a∈b,0<=a/\a<4294967296
def aR.nil:aR []:=λ_ a=>by cases a
theorem aR.cons:aR (d::b)↔(0<=d/\d<4294967296)/\aR b:=by
 constructor
 ·exactλe=>⟨e d (js ..),λc a=>e c (gC _ a)⟩
 rintro⟨f,g⟩ c a;rcases fC.1 a with rfl|a
 ·exact f
 exact g c a
def aR.append {d:aj6}:aR (b++d)↔aR b/\aR d:=by
 constructor
 ·exactλe=>⟨λc a=>e c (nG _ a),λc a=>e c (k1 _ a)⟩
 rintro⟨f,g⟩ c a;rcases hn.1 a with a|a
 ·exact f c a
 exact g c a
def aR.snoc (a:aR b) (c:0<=d) (e:d<4294967296):aR (b++[d]):=
 aR.append.2 ⟨a,aR.cons.2 ⟨⟨c,e⟩,aR.nil⟩⟩
def aR.take {a:aj6} (b:aR a) (d:X):aR (a.take d):=λe c=>b e (uA c)
def aR.drop {a:aj6} (b:aR a) (d:X):aR (a.drop d):=λe c=>b e (List.mem_of_mem_drop c)
theorem aR.lT (a:X):aR (bI a (0:Z)):=λc b=>by grind
def aR.set {c:aj6} (d:aR c) {e:X} {b:Z} (g:0<=b) (h:b<4294967296):aR (c.set e b):=λf a=>by
 rcases List.mem_or_eq_of_mem_set a with a|rfl
 ·exact d f a
 omega
def aR.get (a:aR b) {n:X} (c:n<b.length):0<=b[n]/\b[n]<4294967296:=a _ (cF c)
theorem fS (a:X):0<a2 a:=lz ab
theorem h3 (a:X):a2 (a+1)=4294967296*a2 a:=by unfold a2;omega
theorem uq (a b:X):a2 (a+b)=a2 a*a2 b:=ly ..
theorem y4:a2 0=1:=rfl
theorem mu (a b:aj6):ag (a++b)=ag a+a2 a.length*ag b:=by
 induction a with
 |nil=>simp[ag,y4]
 |cons d a c=>
  grind [an5,h3,ag]
theorem q4 (a:aj6) (b:Z):ag (a++[b])=ag a+a2 a.length*b:=by grind [mu,ag]
theorem fd {l:aj6} (a:aR l):0<=ag l:=by
 induction l with
 |nil=>exact alb _
 |cons c l b=>
  grind [aR.cons,ag]
theorem hd (a:aR b):ag b<a2 b.length:=by
 induction b with
 |nil=>decide
 |cons d b c=>
  grind [an5,h3,aR.cons,ag]
theorem iH (c:a<b.length):ag (b.take (a+1))=ag (b.take a)+a2 a*b[a]:=by grind [q4,akv,alu,akd,bX]
theorem oZ (b:aj6) (a:X) (c:a<=b.length):ag b=ag (b.take a)+a2 a*ag (b.drop a):=by grind [mu,akv,alu,amj]
theorem m0 (c:a<b.length):ag (b.drop a)=b[a]+4294967296*ag (b.drop (a+1)):=by rw[GU c];rfl
theorem pQ (a:X):ag (bI a (0:Z))=0:=by
 induction a with
 |zero=>rfl
 |succ a b=>grind [ag]
theorem m1 (d:a<b.length) (c:Z):ag (b.set a c)=ag b+a2 a*(c-b[a]):=by
 induction b generalizing a with
 |nil=>grind
 |cons f b e=>
  grind [y4,h3,ag]
def vx:X->X->aj6
 |0,_=>[]
 |f+1,a=>if a=0 then[] else((a %4294967296:X):Z)::vx f (a/4294967296)
def eW (a:X):aj6:=vx (Nat.log2 a+1) a
def e9 (b:aj6):Prop:=∀a,b.getLast?=Y a->a≠0
theorem WS:∀{a n:X},n<2^a->aR (vx a n)/\ag (vx a n)=n/\e9 (vx a n):=by
 intro a
 induction a with
 |zero=>
  intro n b;obtain rfl:n=0:=aa;exact⟨aR.nil,bn,λc b=>by cases b⟩
 |succ a i=>
  intro n b;unfold vx;split
  ·rename_i g;subst g;exact⟨aR.nil,bn,λc b=>by cases b⟩
  rename_i k;obtain⟨h,j,d⟩:=i (n:=n/4294967296) aa;refine⟨aR.cons.2 ⟨⟨aa,aa⟩,h⟩,?_,?_⟩
  ·grind [ag]
  intro c f;cases e:vx a (n/4294967296) with
  |nil=>
   grind [List.getLast?_singleton,alo,ag]
  |cons m l=>
   rw[e,List.getLast?_cons_cons] at f;rw[e] at d;exact d c f
def It (a:X):aR (eW a)/\ag (eW a)=a/\e9 (eW a):=WS Nat.lt_log2_self
theorem nj (a:X):aR (eW a):=(It a).1
theorem th (a:X):ag (eW a)=a:=(It a).2.1
def xR (a:X):e9 (eW a):=(It a).2.2
theorem e9.tail (a:e9 (d::b)):e9 b:=λe c=>by
 cases b with
 |nil=>cases c
 |cons f b=>exact a e (by grind)
theorem e9.zero (e:aR b) (c:e9 b) (d:ag b=0):b=[]:=by
 induction b with
 |nil=>rfl
 |cons h b g=>
  obtain⟨⟨i,j⟩,a⟩:=aR.cons.1 e;have k:=fd a;simp only[ag] at d;have f:h=0:=aa;have:=g a c.tail aa;subst this;subst f;exact absurd rfl (c 0 bn)
theorem e9.uniq:∀{a b:aj6},aR a->aR b->e9 a->e9 b->ag a=ag b->a=b
 |[],b,_,e,_,g,c=>(e9.zero e g (by rw[<-c];rfl)).symm
 |a,[],d,_,f,_,c=>e9.zero d f (by rw[c];rfl)
 |x::a,j::b,d,e,f,g,c=>by obtain⟨⟨k,l⟩,h⟩:=aR.cons.1 d;obtain⟨⟨m,n⟩,i⟩:=aR.cons.1 e;simp only[ag] at c;have o:x=j:=aa;have:=e9.uniq h i f.tail g.tail aa;grind
def WV (c:aR b) (d:e9 b) (e:ag b=a):b=eW a:=
 e9.uniq c (nj a) d (xR a) (by rw[e,th])
def e9.eq (a:aR b) (c:e9 b):b=eW (ag b).toNat:=
 WV a c (by have:=fd a;omega)
theorem e9.low (c:aR b) (f:e9 b) (a:b≠[]):a2 (b.length-1)<=ag b:=by have d:=List.dropLast_concat_getLast a;have i:=f (b.getLast a) (List.getLast?_eq_some_getLast a);have j:=c _ (List.getLast_mem a);rw[<-d,q4];have k:=fd (l:=b.dropLast) (λh g=>c h (List.dropLast_subset _ g));have e:1<=b.getLast a:=aa;have m:=jA e (fm (fS b.dropLast.length));grind
theorem adE {c:X} (e:a<c):a2 a<a2 c:=by obtain⟨b,rfl⟩:∃b,c=a+(b+1):=⟨c-a-1,aa⟩;rw[uq,h3];have f:=fS b;have d:=fS a;have g:1*a2 a<(4294967296*a2 b)*a2 a:=su aa d;grind
theorem pH {m n:X} (b:m<=n):a2 m<=a2 n:=by
 rcases cT m n with a|a
 ·exact fm (adE a)
 grind
theorem rL {n k:X} (d:(n:Z)<a2 k):(eW n).length<=k:=by
 by_cases c:eW n=[]
 ·grind
 have a:=e9.low (nj n) (xR n) c;rw[th] at a;rcases cT k (eW n).length with b|b
 ·have:=pH (m:=k) (n:=(eW n).length-1) aa;omega
 omega
theorem N5 (a:X):(a:Z)<a2 (eW a).length:=by have:=hd (nj a);grind [th]
def Iu:eW 0=[]:=rfl
theorem WU:eW a=[]↔a=0:=by
 constructor
 ·grind [th,ag]
 rintro rfl;rfl
def iG (a:aj6):aj6:=eW (ag a).toNat
theorem Tl (f:aR b) (j:a<=b.length) (h:∀c,a<=c->(i:c<b.length)->b[c]=0) (g:e9 (b.take a)):b.take a=iG b:=by have d:ag b=ag (b.take a):=(by have e:b.drop a=bI (b.length-a) 0:=(by refine amo ac λc d e=>?_;grind);grind [oZ,pQ]);rw[iG,d];exact e9.eq (f.take a) g
def Lm (a:aj6):aR (iG a):=nj _
def Tk (a:aj6):e9 (iG a):=xR _
theorem Ln (a:aR b):ag (iG b)=ag b:=by have:=fd a;grind [th,iG]
theorem Tj (a:aR b):(iG b).length<=b.length:=by have c:=hd a;have:=fd a;exact rL aa
def XW {b d:bm c} (g:b.length=d.length) (f:∀a,a<b.length->b[a]?=d[a]?):b=d:=by
 apply ij;intro a;rcases cT a b.length with e|e
 ·exact f a e
 rw[p2 e,p2 aa]
def Uf (a c:aj6) (o:a.length<4611686018427387904):DX (a,c,())=Y (a==c,()):=by
 rw[<-ae.eq_iff];unfold DX;simp only[ae.fg,ae.fb,ae.af];refine⟨λd=>?_,λd=>?_⟩
 ·simp at d;have:a≠c:=λf=>d (by rw[f]);simp[this]
 simp at d;have m:a.length=c.length:=aa;refine ae.for (i0:=0) a.length (λe _=>∀b,b<e->a[b]?=c[b]?) rfl ac (eU _) ?_ ?_
 ·intro e n _ k g;simp only[ae.fg,ae.fb,ae.af,ae.kQ];refine⟨λ_=>⟨k,aa,λl=>?_,λj=>?_⟩,λh=>?_⟩
  ·simp at l;have:a≠c:=λf=>l (by simp[f]);simp[this]
  ·refine⟨jg aa,λb p=>?_⟩;rcases cT b e with i|i
   ·exact g b i
   obtain rfl:b=e:=aa;simp at j;rw[bi k,bi aa,j]
  simp at h;omega
 intro n g;simp only[ae.fg,ae.fb,ae.af];refine⟨λh=>by simp at h,λ_=>?_⟩;simp[XW m g]
theorem ug {b:bm c} (d:a<b.length):b.take a++[b[a]]=b.take (a+1):=by rw[jT,bi d];rfl
theorem Bs:b.Pairwise (· < ·)↔∀d,(e:d+1<b.length)->b[d]<b[d+1]:=by
 constructor
 ·intro e d k;exact(ik.1 e) d (d+1) aa k aa
 intro e;rw[ik];have m:∀c a (f:a<b.length) (g:a+c+1<b.length),b[a]<b[a+c+1]:=by
  intro c
  induction c with
  |zero=>intro a f g;exact e a g
  |succ c l=>
   intro a f g;have i:=l a f aa;have j:=e (a+c+1) aa;exact Int.lt_trans i j
 intro a h f g n;obtain⟨c,rfl⟩:∃c,h=a+c+1:=⟨h-a-1,aa⟩;exact m c a f g
def TR (b:aj6) (r:b.length<4611686018427387904):DW (b,())=Y (br (b.Pairwise (· < ·)),()):=by
 rw[<-ae.eq_iff];unfold DW;simp only[ae.fb];by_cases k:b.length=0
 ·have:b=[]:=List.length_eq_zero_iff.1 k;subst this;refine ae.loop (λo=>o=(1,())) (λ_=>0) rfl ?_;rintro _ rfl;simp[ae.af]
 refine ae.for (i0:=1) b.length (λc _=>∀a,(j:a+1<b.length)->a+1<c->b[a]<b[a+1]) rfl (λa _ j=>by omega) aa ?_ ?_
 ·rintro c _ p l e;simp only[ae.fg,ae.fb,ae.af,ae.kQ];have i:bL.wrap ((c:Z)-1)=((c-1:X):Z):=(by rw[wrap64 aa aa];omega);rw[i];refine⟨λ_=>⟨l,?_⟩,λf=>?_⟩
  ·rw[ae.kQ];refine⟨aa,?_⟩;refine⟨λm=>?_,λh=>⟨jg aa,λa d q=>?_⟩⟩
   ·have:¬b.Pairwise (· < ·):=λn=>by
     have:=Bs.1 n (c-1) aa;simp only[(aa:c-1+1=c)] at this;simp at m;omega
    simp[this]
   rcases cT (a+1) c with g|g
   ·exact e a d g
   obtain rfl:c=a+1:=aa;simp at h;exact h
  simp at f;omega
 intro s e;simp only[ae.fg,ae.fb,ae.af];refine⟨λf=>by simp at f,λ_=>?_⟩;have:b.Pairwise (· < ·):=Bs.2 (λa d=>e a d d);simp[this]
theorem hY (b:bm c) (a:X):ar b (a:Z)=b[a]?:=by unfold ar;simp
end Go.jy
end
