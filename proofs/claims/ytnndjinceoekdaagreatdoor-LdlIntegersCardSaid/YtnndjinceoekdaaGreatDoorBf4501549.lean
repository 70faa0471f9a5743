/-
  Parts of the proof: Pm49, Pm108, Pm117, Pm118, Pm119, Pm120, Pm121, Pm122, Pm123, Pm124, Pm125, Pm126, Th7, Pm127, Pm128, Pm129, Pm130, Pm131, Pm132, Pm133, Pm109, Pm110, Pm134, Pm135, Pm136, Pm138, Pm139, Pm140: the framework (Fw), pure forms (Dn), plain laws (Pl, Th), calls of functions (Ok).
-/
import Derived.KernelRfl
import Derived.Test.YtnndjinceoekdaaGreatDoorB57615898

set_option linter.all false
set_option maxHeartbeats 1000000
open _root_ renaming Nat->X,Int->Z,List->bm,Bool->bz,rfl->bn,not_not_intro->ale,or_false->aoI,congrArg->b3,cond_true->bF,if_neg->b8,cond_false->bP,if_pos->ca,Unit->bt,decide_eq_decide->cB,False->b4,Option->bu
open Option renaming some->Y,none->bo,bind_some->bN,bind->bB,map_some->anc
open Option.some renaming inj->alU
open Go.jN.aS renaming ko->alj,mul->alT,add->alN,zero->amd,rng->amH
open List renaming mem_singleton->alh,not_mem_nil->aoH,nodup_append->aog,nodup_range->aoF,mem_append_left->aoj,range->bI,length_append->alO,take_length->cy,length->cz,flatMap->aoD,length_map->b9,getElem_mem->b6,getElem_idxOf->aoG,ext_getElem->anF,mem_flatMap->anV,sum_append->apN,sum_cons->apM,range_succ->alG,getElem_map->anb,range'->alw,mem_cons_self->amE,mem_cons_of_mem->amI,mem_iff_getElem->al7,getElem_inj->ang,getElem?_eq_some_iff->al1,length_filter_le->alF,length_take->alD,map_cons->aoJ,flatMap_cons->arb,getElem?_eq_getElem->bX,nil_append->apw,take_zero->anN,length_singleton->anU
open Int renaming natAbs->amG,add_zero->anH,natCast_mul->amM,mul_le_mul_of_nonneg_left->anM,gcd->anX,natCast_emod->apz,toNat_natCast->alL,mul_zero->am8,mul_nonneg->am7,lt_or_le->al8,natAbs_neg->ana,neg_mul_neg->aq6,mul_comm->alM,mul_ne_zero->anT,mul_assoc->anO,pow_pos->aoy,one_mul->am9,natAbs_of_nonneg->arc,le_of_lt->alq
open Go.jN.a9 renaming av->anW,ik->anj,run->amc
open Decidable renaming not_not->aq4,decide->br
open Go.jN.aK renaming eO->alr
open List.Pairwise renaming imp->arw,nil->ans
open Bool renaming true->bp,false->bq
open Go.jN.ae renaming eq_iff->bO,aO->bG,steps->bR,bs->bA,af->bv,loop->alv
open Nat renaming add_sub_cancel->apv,gcd_comm->aq5,mul_right_comm->apI,le_trans->cx,add_zero->ara,lt_irrefl->amS,le_refl->cf,div_add_mod'->apQ,div_lt_of_lt_mul->aoK,pos_of_ne_zero->aoL,le_of_eq->amT,sub_zero->amv,le_antisymm->apq,two_pow_pos->am5,one_mul->aoz
open Rat renaming mul_pos->ank,intCast_inj->apO,intCast_neg->aq7,intCast_sub->aq8,intCast_pos->anY,intCast_lt_intCast->aq9,intCast_add->ard,mul_assoc->are,intCast_mul->apP
open Iff renaming rfl->anm
open List.Perm renaming refl->anf
noncomputable section
namespace Go.jN
variable{a b i:X}{c j:Z}{d:X->X->Rat}{e:ak9}{f p:bm (Rat×(X->Rat))}{g:ala}{h n o:Rat}{k:X->X->Z}{l:bm aK}{m:Type}
theorem aeR {b c:ala} (d:iW a a b g c) (e:gI a a b g c≠0):vB (((a:Z),(a:Z),b,g,c,()),())=Y ((0,0,[],[],[],()),gI a a b g c,()):=by unfold vB;refine ai d.yX ?_;grind
def aeO:vC ((0,0,[],[],[],()),())=Y (([],()),1,()):=by unfold vC;refine ai (y:=((1:Z),())) rfl ?_;rfl
def Hb:fA []:=Jq []
theorem aeW (a:ala):∃c,tB (([],()),a,())=Y (([],()),c,()):=by
 rw[Lt (λe d=>by cases d)];by_cases b:nb [] a=0
 ·rw[au b];refine⟨0,?_⟩;have:a=[]:=by
   unfold nb at b;grind
  subst this;rfl
 simp_all
theorem nP.small {c:eu} {i:X->X} {h p:X->X->bz} {e:X->eE} (k:c.length=a) (l:fA c) (n:a<=7) (f:oC c a a b i h) (j:nP c a b i h b p e):(az b e).length<=a/\∀g∈az b e,0<g.2.2.1.length/\g.2.2.1.length<=a:=by have t:=f.zv k l n;refine⟨by grind [cI],λg q=>?_⟩;obtain⟨o,d,rfl⟩:=g8.1 q;rw[cI] at d;rw[k1];obtain⟨v,_,r,_⟩:=j.ur o d;obtain⟨w,u,_⟩:=j.rows k l n f d;have s:=f.m o d;grind [Tf]
theorem YB {c d:ala} (z:a<=b) (Q:b<=7) (y:gI a a c g d=0->mR a c g d) (u:iW a a c g d) {h L:ala} (q:L.length<=9223372036854775807):ae (xY (((a:Z),(a:Z),c,g,d,()),h,L,())) (λU=>∃m:jS,U=(m,())/\m.length<=b/\(∀e∈m,0<e.2.2.1.length/\e.2.2.1.length<=b)/\(wM a a c g d h=0->iw (k3 a (gW (c0 c g d a)) h) m)):=by
 classical
 have v:a<=7:=cO z Q;by_cases f:gI a a c g d=0
 ·have t:=(kE.1 f).1;have N:=(kE.1 f).2;have M:=tH t a (bc _);have O:=tG t;have V:=(y f).el;have P:=tI t u.hw;have R:=tI t (Jh N);have K:=Bu M;have J:=Bt O;have T:=TD (rows:=a) (eO:=a) (E:=gW (c0 c g d a)) aa aa aa (λB A=>P B (h1.1 A).1);have S:=NS K J (λB A=>R B (h1.1 A).1);have x:=aeP T S;rw[OU K J] at x;by_cases r:ff h a
  ·refine(Ju (vU r) (Bf a (gW (c0 c g d a)) h) v q (Sy (y f) u f) x (aeV (cO v ab) r)).mono ?_;rintro _ ⟨C,H,F,D,I,k,l,rfl⟩;obtain⟨o,i⟩:=l.small (vU r) (Bf a (gW (c0 c g d a)) h) v k;exact⟨_,bn,cO o z,λe j=>⟨(i e j).1,cO (i e j).2 z⟩,λ_=>l.Yo (vU r) (Bf a (gW (c0 c g d a)) h) v k⟩
  have p:∃w,tB ((kq a (kf (gW (c0 c g d a))),()),h,())=Y (([],()),w,()):=by
   rw[Lt (λm q=>by have:=Jv a (kf (gW (c0 c g d a))) m q;omega)];rw[ar (λs=>?_)]
   ·grind
   grind [Bd,nb]
  obtain⟨w,p⟩:=p;refine(Ju (G:=[]) (n:=0) rfl Hb (eJ _) q (Sy (y f) u f) x p).mono ?_;rintro _ ⟨C,H,F,D,I,k,l,rfl⟩;obtain⟨o,i⟩:=l.small bn Hb (eJ _) k;refine⟨_,bn,cO o (eJ _),λe j=>⟨(i e j).1,cO (i e j).2 (eJ _)⟩,λs=>absurd (TH s).2.2 r⟩
 obtain⟨w,p⟩:=aeW h;refine(Ju (G:=[]) (n:=0) rfl Hb (eJ _) q (aeR u f) aeO p).mono ?_;rintro _ ⟨C,H,F,D,I,k,l,rfl⟩;obtain⟨o,i⟩:=l.small bn Hb (eJ _) k;exact⟨_,bn,cO o (eJ _),λe j=>⟨(i e j).1,cO (i e j).2 (eJ _)⟩,λs=>absurd (TH s).1 f⟩
def YA {c d:ala} (f:a<=5) (k:iW a a c g d) {e h:ala} (j:h.length<=9223372036854775807):ae (xY (((a:Z),(a:Z),c,g,d,()),e,h,())) (λl=>∃b:jS,l=(b,())/\b.length<=5/\(∀i∈b,0<i.2.2.1.length/\i.2.2.1.length<=5)/\(wM a a c g d e=0->iw (k3 a (gW (c0 c g d a)) e) b)):=
 YB f ab (mR.F1 f) k j
section
section
variable {n:X} {st A B o:ala} {l:bm eE}
theorem Yp (j:ff o n) (q:n<=7) (a:iw (k3 n (gW (c0 st A B n)) o) l):l.length<=7/\(∀d∈l,d.2.2.1.length<=7)/\Fc (k3 n (gW (c0 st A B n)) o) l=0:=by
 have f:=vU (E:=gW (c0 st A B n)) j;have h:=Bf n (gW (c0 st A B n)) o;have p:=Fk a;refine⟨aa,λd k=>?_,?_⟩
 ·obtain⟨r,c,rfl⟩:=g8.1 k;have b:=jL.of a f c;have e:=b.g;rw[cE c] at e;have m:=b.Hu;grind [alU,ir,iC]
 have i:jh (k3 n (gW (c0 st A B n)) o)=0:=ve.2 ⟨aa,h⟩;unfold Fc;rw[ar (ale i),au a]
def Mv (e:mR n st A B) (t:iW n n st A B) (b:gI n n st A B=0) (a:ff o n) (d:iw (k3 n (gW (c0 st A B n)) o) l):xQ (((n:Z),(n:Z),st,A,B,()),o,l,())=Y (qQ (gU (c0 st A B n) o) o l):=by have f:=e.BE;obtain⟨z,m,p⟩:=MG e t b a;obtain⟨C,v,w⟩:=Yp a f d;have j:=YK (E:=gW (c0 st A B n)) (cO f ab) a;have c:=UT j (l:=l) aa (λx u=>by have:=v x u;omega);rw[w] at c;have q:=(kE.1 b).1;have i:=(kE.1 b).2;exact ad2 d (vU a) (λg h=>kv _) (λy k g h=>(alj k (ahq (tI q (Jh i)) _ _)).mono ab ab ab) aa a.1 p (λg h r s=>Tj m r s) c
end
end
structure uY (q:aK):Prop where
 A0:∀d∈q.d,bh d≠2047
 kF:q.a1.length=2->hU q.d≠Y 0
 Ir:∀d∈q.d,fh d
 P6:∀a∈q.l,∀i,fh (a i)
theorem yT (f:a9):∀h:ak9,(∀c∈(f.de h).d,fh c)/\∀b∈(f.de h).l,∀g,fh (b g)
 |[]=>⟨λc a=>absurd a (by show c∉([]:ala);simp),λb e=>absurd e (by show b∉([]:bm (X->Z));simp)⟩
 |[p]=>⟨λc a=>by rw[gq.1 (show c∈[_] from a)];exact GB _ _,λb e g=>by
  rw[alh.1 (show b∈[_] from e)];dsimp only;split
  ·exact⟨ab,ab⟩
  exact Gm _⟩
 |[p,r]=>⟨λc a=>by
  have a:c∈[f.ba p p,f.ba r p,f.ba r r]:=a;simp only[fF,aoH,aoI] at a;rcases a with rfl|rfl|rfl<;>exact GB _ _,λb e g=>by
  have e:b∈[_,_]:=e;simp only[fF,aoH,aoI] at e;grind [Gm]⟩
 |_::_::_::_=>⟨λc a=>absurd a (by show c∉([]:ala);simp),λb e=>absurd e (by show b∉([]:bm (X->Z));simp)⟩
theorem Px {v:X->Z} {p:X} {R:ak9}:∀{l:ak9} {a:Z×ak5},(∀b,a.2=Y b->b∈R/\v b=a.1)->(∀b∈l,b∈R)->∀b,(hV v p l a).2=Y b->b∈R/\v b=(hV v p l a).1
 |[],_,d,_,b,c=>d b c
 |j::l,a,d,f,b,c=>by rw[hV] at c|-;refine Px ?_ (λg e=>f g (gx _ e)) b c;grind
theorem Xc {a b:Z} (g:(c.natAbs:Z)≠0) (f:¬41*((c.natAbs:Z)*c.natAbs)<=64*((j.natAbs:Z)*b)) (h:¬41*b<=64*(a.natAbs:Z)):j*a≠c*c:=by intro e;have d:(j.natAbs:Z)*a.natAbs=(c.natAbs:Z)*c.natAbs:=(by have:=b3 amG e;rw[lj,lj] at this;omega);rw[<-d] at f;have i:(j.natAbs:Z)*(64*(a.natAbs:Z))<=(j.natAbs:Z)*(41*b):=jO aa aa;grind
theorem HY {c:a9} (e:bh (c.ba a b)≠2047):∃d,aP (c.ba a b)=Y d/\c.av a b=(d.natAbs:Z):=⟨_,o9 e,by grind [o9,anW]⟩
theorem Xb {d g e h:Z} (r:bh j≠2047) (l:bh c≠2047) (s:bh d≠2047) (o:aP j=Y g) (p:aP c=Y e) (q:aP d=Y h) (b:hU [j,c,d]=Y 0):g*h=e*e:=by obtain⟨f,a⟩:∃f:X,f=65536:=⟨_,bn⟩;obtain⟨u,z,B,w,al,i,m,y⟩:=alT a (alj a r) (alj a s) ab ab ab;obtain⟨v,A,C,x,k,f2,n,f4⟩:=alT a (alj a l) (alj a l) ab ab ab;have t:=(alN a ab u v.neg ab).2;rw[o] at al;rw[q] at i;rw[p] at k f2;cases al;cases i;cases k;cases f2;have b:cM (bk (aP j) (aP d)) (c5 (bk (aP c) (aP c)))=Y 0:=b;rw[t,m,n] at b;have b:w+-x=0:=gC b;grind
theorem Ih {x:a9}:∀{L P:ak9},(∀p∈L,p∈x.rows)->x.ik L=Y P->uY (x.de P)
 |[],P,_,b=>by rw[anj] at b;cases b;exact⟨λh d=>absurd d (by show h∉([]:ala);simp),λb=>absurd b (by show¬(0=2);decide),(yT x _).1,(yT x _).2⟩
 |p::L,P,r,b=>by
  rw[anj] at b;split at b
  ·cases b
  rename_i e;have e:=aq4.1 e;have m:=r p ac;have G:∀f,f∈x.rows->x.fin f->uY (x.de [f]):=λf n A=>⟨λh d=>by
   rw[gq.1 (show h∈[_] from d)];exact A f n,λb=>absurd b (by show¬(1=2);decide),(yT x _).1,(yT x _).2⟩
  split at b
  ·grind
  rename_i k;split at b
  ·grind
  rename_i c C;obtain⟨g,o⟩:=Px (R:=x.rows) (l:=x.rows) (a:=(0,bo)) (v:=λs=>x.av s p) (p:=p) ac (λs B=>B) c C;split at b
  ·exact Ih (λf n=>r f (gx _ n)) b
  split at b
  ·cases b
  rename_i i;have i:=aq4.1 i;split at b
  ·grind
  rename_i j;split at b
  ·grind
  rename_i q;cases b;refine⟨λh d=>?_,λ_ d=>?_,(yT x _).1,(yT x _).2⟩
  ·have d:h∈[x.ba p p,x.ba c p,x.ba c c]:=d;simp only[fF,aoH,aoI] at d;rcases d with rfl|rfl|rfl
   ·exact e p m
   ·exact e c g
   exact i c g
  obtain⟨D,t,u⟩:=HY (e p m);obtain⟨E,HM,bi⟩:=HY (e c g);obtain⟨F,w,y⟩:=HY (i c g);have o:x.av c p=(x.hp p).1:=o;rw[<-o] at k j;rw[bi] at k j;rw[u] at j;rw[y] at q;exact Xc (λz=>k (.inl z)) j q (Xb (e p m) (e c g) (i c g) t HM w d)
theorem Tb:∀{n:X} {d f:a9} {e:bm aK},amc n d=Y (f,e)->∀c∈e,uY c
 |0,d,f,e,a,c,b=>by grind [amc]
 |n+1,d,f,e,a,c,b=>by
  match hc:d.choose with
  |none=>grind [GI]
  |some []=>
   grind [y3]
  |some (i::h)=>
   rw[wH hc ac] at a;split at a
   case isFalse=>cases a
   cases g:amc n (d.elim (i::h)) with
   |none=>grind
   |some j=>
    rw[g] at a;cases a;rcases fF.1 b with rfl|b
    ·exact Ih (λc b=>rG b) hc
    exact Tb g c b
def qf:ak9->bm aK->Prop
 |_,[]=>True
 |D,a::c=>(∀b∈a.rows,b∉D/\b∉a.a1)/\qf (D++a.a1) c
theorem qf.app:∀{D:ak9} {b a:bm aK},qf D b->qf (D++b.flatMap aK.a1) a->qf D (b++a)
 |D,[],a,_,c=>by grind
 |D,e::b,a,c,d=>⟨c.1,c.2.app (by rwa[lQ])⟩
theorem Ta:∀{n:X} {b i:a9} {f:bm aK} {d:ak9},lL b->(∀c∈b.rows,c∉d)->amc n b=Y (i,f)->qf d f
 |0,b,i,f,d,_,_,a=>by rw[amc] at a;cases a;trivial
 |n+1,b,i,f,d,m,p,a=>by
  match hc:b.choose with
  |none=>grind [GI]
  |some []=>
   rw[y3 hc] at a;cases a;trivial
  |some (h::g)=>
   rw[wH hc ac] at a;split at a
   case isFalse=>cases a
   cases e:amc n (b.elim (h::g)) with
   |none=>grind
   |some q=>
    rw[e] at a;cases a;have j:∀c∈b.rows.filter (λo=>br (o∉h::g)),c∉d/\c∉h::g:=λc e=>(by grind);refine⟨j,Ta (m.elim (z7 hc)) (λc e=>?_) e⟩;obtain⟨k,l⟩:=j c e;exactλa=>(g0.1 a).elim k l
theorem Jf {d:X->X->eA} (h:∀C D,c4 (d C D)) {p:eu} {b:bm eE} {H:X} (k:iw p b) (j:p.length=H):∀{t:X},t<=b.length->∀{g:bm a9} {e:bm aK},iM d b t=Y (g,e)->(∀c∈e,uY c)/\qf [] e
 |0,_,g,e,a=>by rw[iM] at a;cases a;exact⟨λc n=>(by cases n),trivial⟩
 |t+1,K,g,e,a=>by
  rw[iM] at a;cases m:iM d b t with
  |none=>grind
  |some I=>
   obtain⟨q,L⟩:=I;obtain⟨i1,s⟩:=vO h k j aa m;obtain⟨F,G⟩:=Jf h k j aa m;have i:=jL.of k j (aa:t<b.length);rw[m] at a;dsimp only[bN] at a;have z:=s.xv h i;have A:=s.zY i;have B:=xw d (λf=>q.getD f gn) t (l:=b);generalize hS d b (λf=>q.getD f gn) t=w at*;cases o:amc (w.full+1) w with
   |none=>grind
   |some c=>
    rw[o] at a;cases a;refine⟨λc n=>(g0.1 n).elim (F c) (Tb o c),G.app (Ta z (λM v u=>?_) o)⟩;rw[hx] at u;rw[B.1,g0] at v;have J:=fN.1 (A.mem_iff.1 (lT _ (lT _ u)));rcases v with r|r
    ·grind [aog,aoF,aoj]
    obtain⟨E,x,y,f⟩:=wd.1 r;have:=i.Gt E x y;omega
section
def eK (ps:bm aK) (a:X):X:=((ps.take a).flatMap aK.a1).length
def js (ps:bm aK) (a:X):X:=((ps.take a).flatMap aK.d).length
structure hz (n:X) (ps:bm aK):Prop where
 perm:(ps.flatMap aK.a1).Perm (bI n)
 de:∀q∈ps,xf (bI n) q
 k:∀q∈ps,uY q
 Fj:qf [] ps
theorem nh {b:bm m} (c:a<b.length):b.take (a+1)=b.take a++[b[a]]:=by simp_all
theorem Ji {e:Type} (c:m->bm e) {b:bm m} (d:a<b.length):((b.flatMap c).take ((b.take (a+1)).flatMap c).length).drop ((b.take a).flatMap c).length=c b[a]:=by
 have f:b.flatMap c=((b.take a).flatMap c++c b[a])++(b.drop (a+1)).flatMap c:=by
  conv=>lhs;rw[<-j5 (a+1) b,nR,nh d,nR]
  simp
 grind [List.take_left,List.drop_left,nh]
theorem yh {e:Type} (b:m->bm e) {c:bm m} {j:X} (d:a<c.length) (g:j<(b c[a]).length):(c.flatMap b)[((c.take a).flatMap b).length+j]?=Y (b c[a])[j]:=by have f:=Ji b d;grind
theorem qf.at {ps:bm aK} (c:qf e ps):∀{b:X} (f:b<ps.length),∀a∈ps[b].rows,a∉e++(ps.take b).flatMap aK.a1/\a∉ps[b].a1:=by
 induction ps generalizing e with
 |nil=>grind
 |cons h ps g=>
  intro b f a d;cases b with
  |zero=>simpa using c.1 a d
  |succ b=>
   have:=g c.2 (b:=b) (by grind) a d;grind
section
variable {n:X} {ps:bm aK}
theorem vW (b:a<ps.length):eK ps (a+1)=eK ps a+ps[a].a1.length:=by grind [nh,alO,eK]
theorem Oc (b:a<ps.length):js ps (a+1)=js ps a+ps[a].d.length:=by grind [nh,alO,js]
theorem JN:eK ps ps.length=(ps.flatMap aK.a1).length:=by grind [cy,eK]
theorem Ob:js ps ps.length=(ps.flatMap aK.d).length:=by grind [cy,js]
theorem hz.len (a:hz n ps):(ps.flatMap aK.a1).length=n:=by rw[a.perm.length_eq,oI]
def hz.iu (b:hz n ps) (c:a<ps.length):(ps[a].a1.length=1\/ps[a].a1.length=2)/\ps[a].d.length=2*ps[a].a1.length-1/\ps[a].l.length=ps[a].a1.length:=
 have:=b.de _ (cL c)
 ⟨this.at1,this.dl,this.len⟩
theorem hz.P3 (b:hz n ps):∀{a:X},a<=ps.length->eK ps a<=n/\a<=eK ps a/\js ps a+a=2*eK ps a:=by
 intro a e;refine⟨?_,?_⟩
 ·have c:=b3 cz (b3 (aoD aK.a1) (j5 a ps));rw[nR,hI,b.len] at c;grind [eK]
 induction a with
 |zero=>exact⟨bc _,bn⟩
 |succ a d=>
  obtain⟨i1,f⟩:=d aa;obtain⟨g,h,_⟩:=b.iu (aa:a<ps.length);grind [vW,Oc]
def hz.Bn (b:hz n ps) (c:a<ps.length):eK ps a+ps[a].a1.length<=n:=by rw[<-vW c];exact(b.P3 aa).1
def hz.NU (b:hz n ps):∀{a:X},a<=ps.length->((ps.take a).flatMap alr).length=eK ps a:=by
 intro a d
 induction a with
 |zero=>rfl
 |succ a c=>
  rw[nh aa,nR,hI,c aa,vW aa,<-(b.iu (aa:a<ps.length)).2.2];simp[alr]
def hz.call (a:hz n ps):(ps.flatMap alr).length=n:=by have:=a.NU (bc ps.length);rw[h2,JN,a.len] at this;omega
theorem hz.xF (c:hz n ps) (d:a<ps.length) (g:b<ps[a].a1.length):∃e∈ps[a].l,(ps.flatMap alr)[eK ps a+b]?=Y (ps[a].rows,e):=by have h:=(c.iu d).2.2;have f:=yh alr d (j:=b) (by grind [b9,alr]);rw[c.NU aa] at f;grind [b6,alr]
theorem hz.after (c:hz n ps) (d:a<ps.length) (e:b∈ps[a].rows):eK ps a+ps[a].a1.length<=(ps.flatMap aK.a1).idxOf b/\(ps.flatMap aK.a1).idxOf b<n:=by have g:=(c.de _ (cL d)).sub b e;have i:=c.perm.mem_iff.2 g;obtain⟨f,f2⟩:=c.Fj.at d b e;rw[hx] at f;refine⟨?_,by rw[<-c.len];grind⟩;rw[<-vW d];have h:ps.flatMap aK.a1=(ps.take (a+1)).flatMap aK.a1++(ps.drop (a+1)).flatMap aK.a1:=(by rw[<-nR,j5]);have j:b∉(ps.take (a+1)).flatMap aK.a1:=(by grind [nh]);simp_all [List.idxOf_append,ar,eK]
theorem hz.inj (c:hz n ps) (e:a<n) (f:b<n) (h:(ps.flatMap aK.a1).idxOf a=(ps.flatMap aK.a1).idxOf b):a=b:=by have d:=c.perm.mem_iff.2 (fN.2 e);have g:=c.perm.mem_iff.2 (fN.2 f);have al:=aoG (CC.2 d);grind
theorem hz.i6 (d:hz n ps) (i:a<ps.length) (c:X->Z):(gy (λg=>(ps.flatMap aK.a1).idxOf g) (ps[a].rows,c)).Pairwise (λb h=>b<h)/\∀b∈gy (λg=>(ps.flatMap aK.a1).idxOf g) (ps[a].rows,c),((eK ps a+ps[a].a1.length:X):Z)<=b/\b<(n:Z):=by
 have e:=d.de _ (cL i);constructor
 ·unfold gy;rw[nW];refine arw (R:=λc a=>(ps.flatMap aK.a1).idxOf c<(ps.flatMap aK.a1).idxOf a) (λ{c a} d=>Int.ofNat_lt.2 d) (LM ans (λc k=>by cases k) ?_);refine rz ?_ e.nd;intro b h f o m j;exact m (d.inj (fN.1 (e.sub b f)) (fN.1 (e.sub h o)) j)
 intro b f;obtain⟨r,l,rfl⟩:=eS.1 f;obtain⟨p,q⟩:=d.after i ((Ce _ _).mem_iff.1 l);grind
end
theorem Wu (c:iT->ala) {b:bm iT} (d:a<=b.length):(lY c b).getD a 0=(((b.take a).flatMap c).length:Z):=by grind [List.getElem?_range,lY]
theorem NF (b:iT->ala) (a:bm iT):(lY b a).length=a.length+1:=by grind [lY]
theorem NG (c:iT->ala) {b:bm iT} (d:a<b.length):((b.take (a+1)).flatMap c).length=((b.take a).flatMap c).length+(c b[a]).length:=by grind [nh,alO]
theorem NE (a:iT->ala) {cs:bm iT} (b:X):((cs.take b).flatMap a).length<=(cs.flatMap a).length:=by have c:=b3 cz (b3 (aoD a) (j5 b cs));grind
end
section
def ff.of {o:ala} {n:X} (a:g.Perm o) (b:ff o n):ff g n:=
 ⟨a.length_eq.trans b.1,λd c=>b.2.1 d (a.mem_iff.1 c),a.nodup_iff.2 b.2.2⟩
section
variable {n:X} {ps:bm aK} {o:ala}
def hz.order (d:hz n ps) (b:ff o n):ff ((ps.flatMap aK.a1).map λa=>o.getD a 0) n:=by refine b.of ((d.perm.map _).trans ?_);have c:(bI n).map (λa=>o.getD a 0)=o:=anF (by rw[dh,oI,b.1]) λg f e=>(by rw[lR,List.getElem_range,kr e]);rw[c]
structure hQ (n:X) (ps:bm aK) (F:fy):Prop where
 ok:hz n ps
 or:ff F.1 n
 GV:F.2.1.length=ps.length
 iu:∀b (Ft:b<ps.length),aw F.2.1 (b:Z)=Y (ps[b].a1.length:Z)
 vG:F.2.2.1=ps.flatMap aK.d
 agu:F.2.2.2.1.length=n+1
 st:∀j,j<=n->aw F.2.2.2.1 (j:Z)=Y ((((ps.flatMap alr).take j).flatMap (gy λp=>(ps.flatMap aK.a1).idxOf p)).length:Z)
 i6:F.2.2.2.2.1=(ps.flatMap alr).flatMap (gy λp=>(ps.flatMap aK.a1).idxOf p)
 nO:F.2.2.2.2.2.1=(ps.flatMap alr).flatMap (ka λp=>(ps.flatMap aK.a1).idxOf p)
 del:0<=F.2.2.2.2.2.2.1
 sq:n<=12
def hz.O8 (a:hz n ps) (e:n<=12) (f:ff o n) (del:X):hQ n ps (pO o ps (del:Z)):=by
 refine⟨a,a.order f,?_,λb c=>?_,bn,?_,λg d=>?_,bn,bn,Int.ofNat_nonneg _,e⟩
 ·show(ps.map _).length=_;rw[dh]
 ·show aw (ps.map λh=>(h.a1.length:Z)) (b:Z)=_;rw[eT (by rw[dh];exact c),lR]
 ·show(lY _ _).length=_;rw[NF,a.call]
 show aw (lY _ _) (g:Z)=_;rw[hG (by rw[NF,a.call];omega),Wu _ (by rw[a.call];exact d)]
variable {F:fy}
def hQ.small (b:hQ n ps F):F.1.length=n/\F.2.2.2.2.1.length<=144/\F.2.2.2.2.2.1.length=F.2.2.2.2.1.length/\ps.length<=n/\F.2.2.1.length<=2*n:=by
 have f:=b.ok.call;have p:∀a∈ps.flatMap alr,a.1.length<=12:=λa f=>(by obtain⟨k,m,f⟩:=anV.1 f;obtain⟨t,_,rfl⟩:=eS.1 f;have:=(b.ok.de k m).nd.length_le_of_subset (b.ok.de k m).sub;rw[oI] at this;have:=b.sq;show k.rows.length<=12;omega);have q:∀{cs:bm iT} {d:Type} (c:iT->bm d),(∀a∈cs,(c a).length=a.1.length)->(∀a∈cs,a.1.length<=12)->(cs.flatMap c).length<=12*cs.length:=by
  intro cs d c e l
  induction cs with
  |nil=>exact bc _
  |cons a cs i=>
   have:=i (λg h=>e g (gx _ h)) (λg h=>l g (gx _ h));have:=e a ac;have:=l a ac;rw[nS,hI,iH];omega
 have r:∀{cs:bm iT} {d o:Type} (c:iT->bm d) (j:iT->bm o),(∀a,(c a).length=(j a).length)->(cs.flatMap c).length=(cs.flatMap j).length:=by
  intro cs d o c j e
  induction cs with
  |nil=>rfl
  |cons a cs i=>rw[nS,nS,hI,hI,e,i]
 have v:=q (cs:=ps.flatMap alr) (gy λs=>(ps.flatMap aK.a1).idxOf s) (λa _=>by unfold gy;rw[dh,GP]) p;have w:=b.ok.P3 (bc ps.length);have u:=b.sq;refine⟨b.or.1,by rw[b.i6];omega,?_,aa,?_⟩
 ·rw[b.nO,b.i6];exact r _ _ λa=>by unfold gy ka;rw[dh,dh]
 rw[b.vG,<-Ob];omega
structure UI (F:fy) (k n lo:X) (L:ala):Prop where
 len:lo+L.length<=F.2.2.2.2.1.length
 get:∀t (pS:t<L.length),aw F.2.2.2.2.1 ((lo+t:X):Z)=Y L[t]
 age:(F.2.2.2.2.1.take (lo+L.length)).drop lo=L
 asc:∀t (pS:t+1<L.length),L[t]<L[t+1]
 rng:∀t (pS:t<L.length),(k:Z)<=L[t]/\L[t]<(n:Z)
def hQ.xF (c:hQ n ps F) {b f:X} (g:b<ps.length) (r:f<ps[b].a1.length):∃l m,UI F (eK ps b+ps[b].a1.length) n l m/\aw F.2.2.2.1 ((eK ps b+f:X):Z)=Y (l:Z)/\aw F.2.2.2.1 ((eK ps b+f+1:X):Z)=Y ((l+m.length:X):Z):=by obtain⟨o,_,h⟩:=c.ok.xF g r;obtain⟨i,h⟩:=h0.1 h;have u:=c.ok.Bn g;have q:=Ji (gy λa=>(ps.flatMap aK.a1).idxOf a) i;have k:=NG (gy λa=>(ps.flatMap aK.a1).idxOf a) i;have v:=NE (gy λa=>(ps.flatMap aK.a1).idxOf a) (cs:=ps.flatMap alr) (eK ps b+f+1);obtain⟨s,t⟩:=c.ok.i6 g o;have p:=λe d=>yh (gy λa=>(ps.flatMap aK.a1).idxOf a) i (j:=e) d;rw[h] at q k p;refine⟨_,gy (λa=>(ps.flatMap aK.a1).idxOf a) (ps[b].rows,o),⟨by rw[c.i6];omega,λe d=>?_,by rw[c.i6,<-k];exact q,λe d=>iz.1 s _ _ aa d aa,λe d=>t _ (cL _)⟩,c.st _ aa,by rw[c.st _ aa,k]⟩;rw[c.i6];exact gJ (p e d)
end
end
section
def kk (a:aK):Z×Z×Z:=
 if a.a1.length=2/\hZ (hU a.d)<0 then(1,0,1) else if hZ (aP (a.d.getD 0 0))<0 then(a.a1.length,0,0) else if hZ (aP (a.d.getD 0 0))>0 then(0,0,a.a1.length) else(0,1,0)
def fI (b:bm aK):Z×Z×Z:=((b.map λa=>(kk a).1).sum,(b.map λa=>(kk a).2.1).sum,(b.map λa=>(kk a).2.2).sum)
def Tt (b:a<l.length):fI (l.take (a+1))=((fI (l.take a)).1+(kk l[a]).1,(fI (l.take a)).2.1+(kk l[a]).2.1,(fI (l.take a)).2.2+(kk l[a]).2.2):=by unfold fI;rw[nh b];simp only[jC,apN,gL,uT,apM,List.sum_nil,anH]
section
variable {n:X} {ps:bm aK} {F:fy}
def af6 {a:aK} (b:a.a1.length=1\/a.a1.length=2):0<=(kk a).1/\(kk a).1<=2/\0<=(kk a).2.1/\(kk a).2.1<=2/\0<=(kk a).2.2/\(kk a).2.2<=2:=by
 unfold kk;split
 ·decide
 split
 ·dsimp only;omega
 split
 ·dsimp only;omega
 decide
def hQ.af7 (b:hQ n ps F):∀{a:X},a<=ps.length->0<=(fI (ps.take a)).1/\(fI (ps.take a)).1<=2*a/\0<=(fI (ps.take a)).2.1/\(fI (ps.take a)).2.1<=2*a/\0<=(fI (ps.take a)).2.2/\(fI (ps.take a)).2.2<=2*a:=by
 intro a d
 induction a with
 |zero=>simp[fI]
 |succ a c=>
  have:=c aa;have:=af6 (b.ok.iu (aa:a<ps.length)).1;rw[Tt aa];dsimp only;omega
def hQ.diag (b:hQ n ps F) (c:a<ps.length):(F.2.2.1.take (js ps (a+1))).drop (js ps a)=ps[a].d/\js ps (a+1)<=F.2.2.1.length/\js ps (a+1)=js ps a+ps[a].d.length/\aw F.2.2.1 (js ps a:Z)=Y (ps[a].d.getD 0 0):=by
 obtain⟨i,k,_⟩:=b.ok.iu c;have h:=Ji aK.d c;have f:=yh aK.d c (j:=0) aa;have g:=Oc c;refine⟨by rw[b.vG];exact h,?_,g,?_⟩
 ·have e:=b3 cz (b3 (aoD aK.d) (j5 (a+1) ps));rw[nR,hI] at e;rw[b.vG];unfold js;omega
 rw[b.vG,kr aa];exact gJ f
theorem L2 {l:ala} (d:l.length=3):∃a b c,l=[a,b,c]:=by
 match l,d with
 |[a,b,c],_=>exact⟨a,b,c,bn⟩
def hQ.ahs (c:hQ n ps F):(∀b∈F.2.2.2.2.2.1,fh b/\bh b≠2047)/\∀b∈F.2.2.1,fh b/\bh b≠2047:=by
 constructor
 ·intro b a;rw[c.nO] at a;obtain⟨l,f,a⟩:=anV.1 a;obtain⟨e,d,f⟩:=anV.1 f;obtain⟨g,h,rfl⟩:=eS.1 f;obtain⟨i,j,rfl⟩:=eS.1 a;exact⟨(c.ok.k e d).P6 g h i,(c.ok.de e d).fin g h i ((Ce _ _).mem_iff.1 j)⟩
 intro b a;rw[c.vG] at a;obtain⟨e,d,a⟩:=anV.1 a;exact⟨(c.ok.k e d).Ir b a,(c.ok.k e d).A0 b a⟩
def uY.two {a:aK} (p:uY a) (B:a.a1.length=2) (J:a.d.length=2*a.a1.length-1):IS (a.d,())=Y (aA (hU a.d),())/\c4 (hU a.d)/\hZ (hU a.d)≠0/\(¬hZ (hU a.d)<0->hZ (aP (a.d.getD 0 0))≠0):=by
 obtain⟨g,b,k,o⟩:=L2 (l:=a.d) aa;have m:=p.Ir;have n:=p.A0;have h:=p.kF B;rw[o] at m n h|-;have z:=n g ac;have u:=n b ac;have A:=n k ac;obtain⟨j,e⟩:∃j:X,j=65536:=⟨_,bn⟩;obtain⟨F,x,M,q,al,I,r,s⟩:=alT e (alj e z) (alj e A) ab ab ab;obtain⟨G,H,N,f,y,f2,t,f4⟩:=alT e (alj e u) (alj e u) ab ab ab;have v:hU [g,b,k]=Y (q+-f):=(by have:=(alN e ab F G.neg ab).2;rw[r,t] at this;show cM (bk (aP g) (aP k)) (c5 (bk (aP b) (aP b)))=_;rw[r,t];exact this);refine⟨aeN (m g ac) (m b ac) (m k ac),pC _ _,?_,λw c=>?_⟩
 ·rw[v] at h|-;intro i;refine h (b3 Y ?_);have i:fB (q+-f)=0:=i;unfold fB at i;split at i
  ·omega
  split at i<;>omega
 have c:hZ (aP g)=0:=c;rw[al] at c;have D:x=0:=by
  have c:fB x=0:=c;unfold fB at c;split at c
  ·omega
  split at c<;>omega
 rw[D,nm] at s;have C:(0:Z)<2^j:=lm ab;have E:q=0:=(zz.1 s).resolve_right aa;rw[y] at f2;cases f2;have L:0<=f:=(by have:0<=f*2^j:=(by rw[f4,<-Int.natAbs_mul_self' H];exact lO aa aa);exact Int.nonneg_of_mul_nonneg_left this C);rw[v,E] at w h;have K:f≠0:=λo=>h (by rw[o];rfl);refine w ?_;show fB (0+-f)<0;unfold fB;split
 ·omega
 split<;>omega
end
end
section
section
variable {n:X} {ps:bm aK} {F:fy}
def aaY (a:-100000<=c) (b:c<=100000):aQ c=c+1:=cG (x:=c+1) aa aa
def hQ.at (b:hQ n ps F) (c:a<ps.length):ay (ay ((js ps a:Z)+ay (2*(ps[a].a1.length:Z)))-1)=(js ps (a+1):Z)/\(ps[a].a1.length=2->ay ((js ps a:Z)+3)=(js ps (a+1):Z)):=by
 obtain⟨h,i,_⟩:=b.ok.iu c;obtain⟨_,d,e,_⟩:=b.diag c;have:=b.small.2.2.2.2;have g:=b.sq;refine⟨?_,λf=>?_⟩
 ·rw[cG (x:=2*(ps[a].a1.length:Z)) aa aa,cG (x:=(js ps a:Z)+2*(ps[a].a1.length:Z)) aa aa,cG aa aa];omega
 rw[cG aa aa];omega
end
end
section
def ZW {n:X} (a:n<=200) (b:ff g n):Iz (g,())=Y (bp,()):=Zh a b
section
variable {n:X} {ps:bm aK} {F:fy}
def nD (ps:bm aK) (a:X):ala:=(bI a).map λb=>(eK ps b:Z)
theorem X9 (ps:bm aK) (a:X):nD ps (a+1)=nD ps a++[(eK ps a:Z)]:=by grind [alG,nD]
theorem Fe (ps:bm aK) (a:X):(nD ps a).length=a:=by grind [nD]
theorem Jg (c:a<b):aw (nD ps b) (a:Z)=Y (eK ps a:Z):=by grind [eT,Fe,nD]
theorem Sb (b:hQ n ps F):Az (F,())=Y (nD ps ps.length,bp,()):=by
 obtain⟨h,o,p,q,r⟩:=b.small;have k:=b.sq;unfold Az;refine bO.1 ?_;dsimp only;refine bG (P:=λf=>f=.inl ((n:Z),(F.2.2.1.length:Z),nD ps ps.length,())) ?_ ?_
 ·refine bR ps.length (λa g=>g=((eK ps a:Z),(js ps a:Z),(a:Z),nD ps a,())) rfl ?_ ?_
  ·rintro a _ c rfl;obtain⟨s,t,_⟩:=b.ok.iu c;have m:=b.ok.Bn c;have e:(ps[a].a1.length:Z)=1\/(ps[a].a1.length:Z)=2:=aa;obtain⟨i,_⟩:=b.at c;have l:=b.diag c;dsimp only;rw[bb,b.GV,a7 (aH (aa:(a:Z)<(ps.length:Z))),bg aa,b.iu a c];simp only[bN];refine bA (y:=.inl ((eK ps (a+1):Z),(js ps (a+1):Z),nD ps (a+1),())) ?_ (bv.2 bn);refine ai (y:=.inl (nD ps a,())) ?_ ?_
   ·refine ai (y:=(bq,nD ps a,())) ?_ ?_
    ·rw[bb,h,aD (aa:¬((eK ps a:Z)>=(n:Z)))];rcases e with d|d
     ·grind
     simp_all
    grind
   dsimp only;rw[e3 (by grind [Fe]),bN,X9,vW c,cG (x:=(eK ps a:Z)+(ps[a].a1.length:Z)) aa aa];have j:ay ((js ps a:Z)+ay (ay (2*(ps[a].a1.length:Z))-1))=(js ps (a+1):Z):=(by rw[cG (x:=2*(ps[a].a1.length:Z)) aa aa,cG (x:=2*(ps[a].a1.length:Z)-1) aa aa,cG aa aa];omega);grind
  rintro _ rfl;dsimp only;rw[bb,b.GV,a2 (aD (aa:¬((ps.length:Z)<(ps.length:Z)))),JN,Ob,b.ok.len,<-b.vG];grind [bv]
 rintro _ rfl;simp_all [bv,bb,a7]
theorem WR (c:hQ n ps F):DH (F,nD ps ps.length,())=Y (bp,()):=by
 obtain⟨s,A,B,C,D⟩:=c.small;have t:=c.sq;unfold DH;refine bO.1 ?_;dsimp only;have k:=c.st 0 aa;have m:=c.st n aa;refine bA (y:=.inl ()) ?_ ?_
 ·refine ai (y:=(0:Z)) (k.trans ac) ?_;rw[a7 (by rfl),bb,s,m];simp only[aI];rw[bb,c.i6,<-c.ok.call,h2,a2 ac]
 dsimp only;refine bG (P:=λi=>i=.inl ()) ?_ (by grind [bv]);refine bR ps.length (λa f=>f=((a:Z),())) rfl ?_ ?_
 ·rintro a _ e rfl;obtain⟨E,G,_⟩:=c.ok.iu e;have u:=c.ok.Bn e;dsimp only;rw[bb,Fe,a7 (aH (aa:(a:Z)<(ps.length:Z))),bg aa,Jg e,c.iu a e];simp only[bN];have l:ay (ay ((eK ps a:Z)+(ps[a].a1.length:Z))-1)=((eK ps a+ps[a].a1.length-1:X):Z):=by
   grind [cG]
  rw[l];refine bG (P:=λi=>i=.inl ()) ?_ (by grind [bv]);refine bR ps[a].a1.length (λh f=>f=(((eK ps a+h:X):Z),())) rfl ?_ ?_
  ·rintro h _ r rfl;obtain⟨w,d,g,o,p⟩:=c.xF e r;have q:=g.len;dsimp only;rw[a7 (aH (aa:((eK ps a+h:X):Z)<=((eK ps a+ps[a].a1.length-1:X):Z))),bg aa,o,p];simp only[bN];refine bA (y:=.inl ()) ?_ (bv.2 bn);refine ai (y:=.inl ()) ?_ ?_
   ·rw[a7 (by grind),bb,a2 (aD aa)]
   dsimp only;refine ai (agl aa q) ?_;dsimp only;rw[g.age];refine ai (y:=.inl ()) ?_ bn;refine bO.1 ?_;refine bR d.length (λb f=>f=((if b=0 then((eK ps a+ps[a].a1.length-1:X):Z) else d.getD (b-1) 0),(b:Z),())) rfl ?_ ?_
   ·rintro b _ j rfl;obtain⟨x,z⟩:=g.rng b j;dsimp only;rw[bb,a7 (aH (aa:(b:Z)<(d.length:Z))),bg aa,eT j];simp only[bN];refine bA (y:=.inl (d[b],())) ?_ ?_
    ·refine ai (y:=.inl ()) ?_ bn;have v:(if b=0 then((eK ps a+ps[a].a1.length-1:X):Z) else d.getD (b-1) 0)<d[b]:=by
      split
      ·omega
      have:=g.asc (b-1) aa;grind
     grind
    simp_all [bv,ar,Nat.succ_ne_zero,apv,kr]
   rintro _ rfl;dsimp only;rw[bb,a2 (aD (aa:¬((d.length:Z)<(d.length:Z))))];grind [bv]
  rintro _ rfl;dsimp only;rw[a2 (aD (aa:¬((eK ps a+ps[a].a1.length:X):Z)<=((eK ps a+ps[a].a1.length-1:X):Z)))];grind [bv]
 rintro _ rfl;dsimp only;rw[bb,Fe,a2 (aD (aa:¬((ps.length:Z)<(ps.length:Z))))];grind [bv]
def jj (b:aK):bm gB:=b.d.map λa=>aA (aP a)
theorem IX (b:hQ n ps F):xR (F,())=Y (ps.map jj,()):=by
 obtain⟨u,v,w,z,A⟩:=b.small;have t:=b.sq;unfold xR;refine bO.1 ?_;dsimp only;refine bG (P:=λf=>f=(ps.map jj,())) ?_ (by grind [bv]);refine bR ps.length (λa g=>g=((js ps a:Z),(a:Z),(ps.take a).map jj,())) rfl ?_ ?_
 ·rintro a _ e rfl;obtain⟨B,C,_⟩:=b.ok.iu e;obtain⟨q,r,l,s⟩:=b.diag e;have o:=(b.ok.k _ (b6 e)).Ir;dsimp only;rw[bb,b.GV,a7 (aH (aa:(a:Z)<(ps.length:Z))),bg aa,b.iu a e];simp only[bN];have m:ay (ay (2*(ps[a].a1.length:Z))-1)=(ps[a].d.length:Z):=by
   rw[cG (x:=2*(ps[a].a1.length:Z)) aa aa,cG aa aa];omega
  rw[m];refine bG (P:=λf=>f=((js ps (a+1):Z),(ps.take a).map jj,jj ps[a],())) ?_ ?_
  ·refine bR ps[a].d.length (λc g=>g=(((js ps a+c:X):Z),(c:Z),(ps.take a).map jj,(ps[a].d.take c).map (λi=>aA (aP i)),())) rfl ?_ ?_
   ·rintro c _ h rfl;have p:=yh aK.d e (j:=c) h;dsimp only;rw[a7 (aH (aa:(c:Z)<(ps[a].d.length:Z))),bg aa,bg aa];refine bA (y:=ps[a].d[c]) (by rw[b.vG];exact gJ p) ?_;refine bA (q4 (o _ (b6 h))) ?_;dsimp only;rw[e3 (by grind),bN];grind [nh,bv]
   rintro _ rfl;dsimp only;rw[a2 (aD (aa:¬((ps[a].d.length:Z)<(ps[a].d.length:Z)))),cy,<-l];exact bv.2 bn
  rintro _ rfl;dsimp only;rw[e3 (by grind),bN];grind [nh,bv]
 rintro _ rfl;dsimp only;rw[bb,b.GV,a2 (aD (aa:¬((ps.length:Z)<(ps.length:Z)))),cy];grind [bv]
end
end
section
section
variable {n:X} {ps:bm aK} {F:fy}
theorem JV {a:aK} (b:a.d.length=3):vt (jj a,())=Y (aA (hU a.d),()):=by grind [Ov,L2,jj]
theorem JU (a:hQ n ps F):vr (F,())=Y (0,()):=by
 obtain⟨t,B,u,C,D⟩:=a.small;obtain⟨v1,fb⟩:=a.ahs;have z:=a.sq;have A:=a.del;unfold vr;refine bO.1 ?_;dsimp only;refine bA (y:=.inl ()) ?_ ?_
 ·rw[bb,t,a2 (aD (aa:¬((n:Z)>200)))];refine ai (ZW aa a.or) ?_;dsimp only;rw[a2 (by rfl),bb,a.agu,bg aa,a7 ac,bb,bb,u,a2 ac]
 dsimp only;refine bA (Sb a) ?_;dsimp only;refine bA (y:=.inl ()) ?_ ?_
 ·rw[a7 (by rfl),a7 (by grind)];refine ai (WR a) ?_;grind
 dsimp only;refine bG (P:=λe=>e=.inl ()) ?_ ?_
 ·have m:∀b∈[F.2.2.2.2.2.1,F.2.2.1],b.length<=1000/\∀o∈b,fh o/\bh o≠2047:=λb m=>by
   grind
  refine bR 2 (λg f=>f=((g:Z),[F.2.2.2.2.2.1,F.2.2.1],())) rfl ?_ ?_
  ·rintro g _ r rfl;have l:g<([F.2.2.2.2.2.1,F.2.2.1]:eu).length:=r;obtain⟨ax,s⟩:=m _ (b6 l);dsimp only;rw[bb,show(([F.2.2.2.2.2.1,F.2.2.1]:eu).length:Z)=2 from rfl,a7 (aH (aa:(g:Z)<2)),bg aa,iE l];generalize([F.2.2.2.2.2.1,F.2.2.1]:eu)[g]=b at*;refine bG (P:=λe=>e=.inl ([F.2.2.2.2.2.1,F.2.2.1],())) ?_ (by grind [bv]);refine bR b.length (λh f=>f=((h:Z),[F.2.2.2.2.2.1,F.2.2.1],())) rfl ?_ ?_
   ·rintro h _ j rfl;obtain⟨v,w⟩:=s _ (b6 j);dsimp only;rw[bb,a7 (aH (aa:(h:Z)<(b.length:Z))),bg aa];refine bA (eT j) (bA (FC v) ?_);dsimp only;rw[aD w,a2 (by rfl)];grind [bv]
   rintro _ rfl;dsimp only;rw[bb,a2 (aD (aa:¬((b.length:Z)<(b.length:Z))))];grind [bv]
  grind [bv]
 rintro _ rfl;dsimp only;refine bA (IX a) ?_;dsimp only;refine bG (P:=λe=>e=.inl ()) ?_ (by grind [bv]);refine bR ps.length (λc f=>f=((c:Z),ps.map jj,())) rfl ?_ ?_
 ·rintro c _ i rfl;obtain⟨I,x,_⟩:=a.ok.iu i;dsimp only;rw[bb,b9,a7 (aH (aa:(c:Z)<(ps.length:Z))),bg aa,iE (by grind),anb];refine bA (y:=.inl (ps.map jj,())) ?_ (bv.2 bn);have q:ao (jj ps[c])=(ps[c].d.length:Z):=(by grind [b9,bb,jj]);rw[q,g2];by_cases p:ps[c].a1.length=2
  ·obtain⟨E,G,H,_⟩:=(a.ok.k _ (cL i)).two p x;simp_all [g2,a2,aD,ai,JV,o0,aH,a7]
  grind
 rintro _ rfl;dsimp only;rw[bb,b9,a2 (aD (aa:¬((ps.length:Z)<(ps.length:Z))))];grind [bv]
theorem P5 (b:hQ n ps F):At (F,())=Y (((fI ps).1,(fI ps).2.1,(fI ps).2.2,()),0,()):=by
 obtain⟨w,x,z,A,B⟩:=b.small;have u:=b.sq;unfold At;refine bO.1 ?_;refine bA (JU b) ?_;dsimp only;rw[a2 (by rfl)];refine bA (IX b) ?_;dsimp only;refine bG (P:=λp=>p=(((0:Z),(0:Z),(0:Z),()),((fI ps).1,(fI ps).2.1,(fI ps).2.2,()),())) ?_ (by grind [bv]);refine bR ps.length (λa q=>q=((a:Z),((0:Z),(0:Z),(0:Z),()),((fI (ps.take a)).1,(fI (ps.take a)).2.1,(fI (ps.take a)).2.2,()),ps.map jj,())) rfl ?_ ?_
 ·rintro a _ e rfl;obtain⟨t,i,_⟩:=b.ok.iu e;have v:=b.af7 (aa:a<=ps.length);have o:=Tt e;have m:ao (jj ps[a])=(ps[a].d.length:Z):=(by grind [b9,bb,jj]);have l:aw (jj ps[a]) 0=Y (aA (aP (ps[a].d.getD 0 0))):=by
   grind [kr,eT,b9,trans,jj]
  dsimp only;rw[bb,b9,a7 (aH (aa:(a:Z)<(ps.length:Z))),bg aa,iE (by grind),anb];refine bA (y:=(((0:Z),(0:Z),(0:Z),()),((fI (ps.take (a+1))).1,(fI (ps.take (a+1))).2.1,(fI (ps.take (a+1))).2.2,()),ps.map jj,())) ?_ (bv.2 bn);refine ai l (ai (o0 (kv _)) ?_);dsimp only;rw[m,g2,o];unfold kk;by_cases h:ps[a].a1.length=2/\hZ (hU ps[a].d)<0
  ·obtain⟨r,j,s,_⟩:=(b.ok.k _ (cL e)).two h.1 i;refine ai (y:=.inr (((0:Z),(0:Z),(0:Z),()),((fI (ps.take a)).1+1,(fI (ps.take a)).2.1,(fI (ps.take a)).2.2+1,()),ps.map jj,())) ?_ ?_
   ·rw[aH (aa:((ps[a].d.length:X):Z)=3),bF];refine ai (JV aa) (ai (o0 j) ?_);dsimp only;rw[a7 (aH h.2),aaY aa aa,cG aa aa]
   grind
  refine ai (y:=.inl ((ps[a].a1.length:Z),((0:Z),(0:Z),(0:Z),()),((fI (ps.take a)).1,(fI (ps.take a)).2.1,(fI (ps.take a)).2.2,()),ps.map jj,())) ?_ ?_
  ·by_cases c:ps[a].a1.length=2
   ·obtain⟨r,j,s,_⟩:=(b.ok.k _ (cL e)).two c i;simp_all [a2,aD,ai,JV,o0,aH,bF]
   grind
  dsimp only;rw[b8 h];by_cases f:hZ (aP (ps[a].d.getD 0 0))<0
  ·rw[aH f,bF,au f];grind [cG]
  rw[aD f,bP,ar f];by_cases g:hZ (aP (ps[a].d.getD 0 0))>0
  ·rw[aH g,bF,au g];grind [cG]
  rw[aD g,bP,ar g];have al:ps[a].a1.length=1:=by
   rcases t with c|c
   ·exact c
   obtain⟨_,_,_,C⟩:=(b.ok.k _ (cL e)).two c i;omega
  grind [cG]
 rintro _ rfl;dsimp only;rw[bb,b9,a2 (aD (aa:¬((ps.length:Z)<(ps.length:Z)))),cy];grind [bv]
end
end
section
def fV {α:Type} (m n:X) (E:X->X->α):bm (bm α):=az m λi=>az n (E i)
def iv {α:Type} (E:X->X->α) (i j:X) (c:α):X->X->α:=λa b=>if a=i/\b=j then c else E a b
section
variable {α:Type} {m n:X} {E:X->X->α} {i j:X}
theorem pd:(fV m n E).length=m:=cI _ _
def ux (a:i<m):be (fV m n E).length (i:Z)=Y i:=by rw[pd];exact e9 a
def uy (b:i<m) (c:j<n):((a5 (fV m n E) i λa=>Y a).bind λa=>be a.length (j:Z))=Y j:=by unfold fV;rw[hb (gV b),aI,cI,e9 c]
def afP (k:i<m) (l:j<n) (f:α):(a5 (fV m n E) i λe=>(a5 e j λ_=>Y (e.set j f)).map λo=>(fV m n E).set i o)=Y (fV m n (iv E i j f)):=by
 unfold fV;rw[hb (gV k),hb (gV l),jr];congr 1;rw[ho,ho];refine df λg p=>?_;by_cases a:g=i
 ·subst a;rw[gH];refine df λd h=>?_;by_cases b:d=j
  ·subst b;rw[gH];exact(au ⟨bn,bn⟩).symm
  rw[g6 _ _ b];exact(ar (λc=>b c.2)).symm
 rw[g6 _ _ a];refine df λd h=>?_;exact(ar (λc=>a c.1)).symm
def ou (a:i<m):aw (fV m n E) (i:Z)=Y (az n (E i)):=gJ (gV a)
end
def fG (ps:bm aK) (a j:X):eA:=if a=j then jm 1 else match(ps.flatMap alr)[j]? with
 |some b=>if(ps.flatMap aK.a1).getD a 0∈b.1 then aP (b.2 ((ps.flatMap aK.a1).getD a 0)) else Y 0
 |none=>Y 0
def mP (ps:bm aK):X->X->X->eA
 |0=>λ_ _=>Y 0
 |b+1=>match ps[b]? with
  |some a=>if a.a1.length=2 then iv (iv (iv (iv (mP ps b) (eK ps b) (eK ps b) (aP (a.d.getD 0 0))) (eK ps b+1) (eK ps b) (aP (a.d.getD 1 0))) (eK ps b) (eK ps b+1) (aP (a.d.getD 1 0))) (eK ps b+1) (eK ps b+1) (aP (a.d.getD 2 0))
   else iv (mP ps b) (eK ps b) (eK ps b) (aP (a.d.getD 0 0))
  |none=>mP ps b
section
variable {n:X} {ps:bm aK} {F:fy}
def Mt (ps:bm aK) (j b a:X):gB:=if a<j then aA (fG ps b a) else if b=a then aA (jm 1) else yc
theorem hz.getD (c:hz n ps) {a:X} (e:a<n):(ps.flatMap aK.a1).getD ((ps.flatMap aK.a1).idxOf a) 0=a:=by have d:=c.perm.mem_iff.2 (fN.2 e);have b:=CC.2 d;rw[ky,cE b,aoG b];rfl
def hz.idx (b:hz n ps) (e:a<n):(ps.flatMap aK.a1).idxOf ((ps.flatMap aK.a1).getD a 0)=a:=by have c:a<(ps.flatMap aK.a1).length:=(by rw[b.len];exact e);have f:=b.perm.nodup_iff.2 nV;rw[ky,cE c,sZ];have d:=CC.2 (cL c);exact(qq f).1 (aoG d)
end
end
section
section
variable {n:X} {ps:bm aK} {F:fy}
def hz.eI (f:hz n ps) (i:a<n):∃b c,∃d:b<ps.length,c<ps[b].a1.length/\a=eK ps b+c:=by
 have k:∀b,b<=ps.length->a<eK ps b->∃b c,∃d:b<ps.length,c<ps[b].a1.length/\a=eK ps b+c:=by
  intro b
  induction b with
  |zero=>intro _ g;exact absurd g (by unfold eK;simp)
  |succ b j=>
   intro d h;by_cases e:a<eK ps b
   ·exact j aa e
   rw[vW aa] at h;exact⟨b,a-eK ps b,aa,aa,aa⟩
 exact k ps.length (bc _) (by rw[JN,f.len];exact i)
structure UH (n:X) (ps:bm aK) (F:fy) (j:X) (c:iT) (lo:X) (S:ak9):Prop where
 cs:(ps.flatMap alr)[j]?=Y c
 Ti:aw F.2.2.2.1 (j:Z)=Y (lo:Z)
 s1:aw F.2.2.2.1 ((j+1:X):Z)=Y ((lo+S.length:X):Z)
 i6:∀t (pS:t<S.length),aw F.2.2.2.2.1 ((lo+t:X):Z)=Y ((ps.flatMap aK.a1).idxOf S[t]:Z)/\aw F.2.2.2.2.2.1 ((lo+t:X):Z)=Y (c.2 S[t])
 mem:∀r,r∈S↔r∈c.1
 nd:S.Nodup
 row:∀r∈c.1,j<(ps.flatMap aK.a1).idxOf r/\(ps.flatMap aK.a1).idxOf r<n/\r<n/\fh (c.2 r)/\bh (c.2 r)≠2047
 le:lo+S.length<=144
def hQ.WD (c:hQ n ps F) (B:a<n):∃r H x,UH n ps F a r H x:=by
 obtain⟨d,D,h,A,rfl⟩:=c.ok.eI B;obtain⟨g,s,t⟩:=c.ok.xF h A;obtain⟨m,z⟩:=h0.1 t;have o:=NG (gy λb=>(ps.flatMap aK.a1).idxOf b) m;have K:=NE (gy λb=>(ps.flatMap aK.a1).idxOf b) (cs:=ps.flatMap alr) (eK ps d+D+1);have v:=λe i=>yh (gy λb=>(ps.flatMap aK.a1).idxOf b) m (j:=e) i;have w:=λe i=>yh (ka λb=>(ps.flatMap aK.a1).idxOf b) m (j:=e) i;rw[z] at o v w;have p:=c.ok.de _ (cL h);have C:=c.small;have u:(gy (λb=>(ps.flatMap aK.a1).idxOf b) (ps[d].rows,g)).length=(rn (λb=>(ps.flatMap aK.a1).idxOf b) ps[d].rows).length:=(by unfold gy;rw[dh]);have J:(ka (λb=>(ps.flatMap aK.a1).idxOf b) (ps[d].rows,g)).length=(rn (λb=>(ps.flatMap aK.a1).idxOf b) ps[d].rows).length:=(by unfold ka;rw[dh]);have G:∀f:bm iT,(f.flatMap (ka λb=>(ps.flatMap aK.a1).idxOf b)).length=(f.flatMap (gy λb=>(ps.flatMap aK.a1).idxOf b)).length:=by
  intro f
  induction f with
  |nil=>rfl
  |cons r f E=>
   rw[nS,nS,hI,hI,E];congr 1;unfold ka gy;rw[dh,dh]
 refine⟨(ps[d].rows,g),_,rn (λb=>(ps.flatMap aK.a1).idxOf b) ps[d].rows,t,c.st _ aa,?_,λe i=>⟨?_,?_⟩,λl=>(Ce _ _).mem_iff,(Ce _ _).nodup_iff.2 p.nd,λl q=>?_,?_⟩
 ·rw[c.st _ aa,o,u]
 ·rw[c.i6];refine(gJ (v e aa)).trans ?_;unfold gy;rw[lR]
 ·rw[c.nO,<-G];refine(gJ (w e aa)).trans ?_;unfold ka;rw[lR]
 ·obtain⟨I,y⟩:=c.ok.after h q;exact⟨aa,y,fN.1 (p.sub l q),(c.ok.k _ (cL h)).P6 g s l,p.fin g s l q⟩
 rw[<-u,<-o];rw[c.i6] at C;omega
end
end
section
def sv (n a:X):ak9:=alw (a-1) (min n (a+2)-(a-1))
def BU (ps:bm aK) (n b c:X) (a:X×X):eA:=bk (bk (fG ps b a.1) (mP ps ps.length a.1 a.2)) (fG ps c a.2)
def nK (n b:X):alb:=(bI b).flatMap λa=>(sv n a).map λc=>(a,c)
def nL (ps:bm aK) (n a b:X):eA:=sF ((nK n n).map (BU ps n a b))
def Si (n a:X):nK n (a+1)=nK n a++(sv n a).map λb=>(a,b):=by unfold nK;rw[jq,nR];simp
def Sh (n:X):∀m,(nK n m).length<=3*m
 |0=>bc _
 |m+1=>by have:=Sh n m;rw[Si,hI,dh];have:(sv n m).length<=3:=(by unfold sv;rw[List.length_range'];omega);omega
section
variable {n:X} {ps:bm aK} {F:fy}
end
end
def wQ (c d f:Rat) (e b:X->Rat):bm (Rat×(X->Rat)):=
 if c=0 then[(1/4,λa=>f*b a+(2*d*e a+1*b a)),(-(1/4),λa=>f*b a+(2*d*e a+-1*b a))]
 else[(c,λa=>e a+d/c*b a),((c*f-d*d)/c,b)]
def kh (a:X->X->Rat):ak9->bm Rat->X->bm (Rat×(X->Rat))
 |1::b,d::ds,k=>(d,a k)::kh a b ds (k+1)
 |2::b,d1::d2::d3::ds,k=>wQ d1 d2 d3 (a k) (a (k+1))++kh a b ds (k+2)
 |_,_,_=>[]
def wA (a:X->Rat):ak9->bm Rat->X->Rat
 |1::b,d::ds,k=>d*(a k*a k)+wA a b ds (k+1)
 |2::b,d1::d2::d3::ds,k=>(d1*(a k*a k)+2*d2*(a k*a (k+1))+d3*(a (k+1)*a (k+1)))+wA a b ds (k+2)
 |_,_,_=>0
inductive sP (n:X):ak9->bm Rat->X->Prop
 |nil:sP n [] [] n
 |one {Cf:ak9} {ds:bm Rat} {d:Rat} {k:X} (h:sP n Cf ds (k+1)):sP n (1::Cf) (d::ds) k
 |two {Cf:ak9} {ds:bm Rat} {d1 d2 d3:Rat} {k:X} (ahZ:d1*d3-d2*d2≠0) (h:sP n Cf ds (k+2)):sP n (2::Cf) (d1::d2::d3::ds) k
def mJ:ak9->bm Rat->X×X
 |1::b,d::ds=>let a:=mJ b ds;if 0<d then(a.1+1,a.2) else if d<0 then(a.1,a.2+1) else a
 |2::b,d1::d2::d3::ds=>let a:=mJ b ds;if d1*d3-d2*d2<0 then(a.1+1,a.2+1) else if 0<d1 then(a.1+2,a.2) else(a.1,a.2+2)
 |_,_=>(0,0)
def k6 (a:bm (Rat×(X->Rat))):X:=(a.filter λb=>br (b.1<0)).length
def us (a:Rat×(X->Rat)) (b:bm (Rat×(X->Rat))):kL (a::b)=(if 0<a.1 then 1 else 0)+kL b:=by
 unfold kL;rw[mh];by_cases c:0<a.1
 ·simp[c];omega
 simp[c]
def uh (a:Rat×(X->Rat)) (b:bm (Rat×(X->Rat))):k6 (a::b)=(if a.1<0 then 1 else 0)+k6 b:=by
 unfold k6;rw[mh];by_cases c:a.1<0
 ·simp[c];omega
 simp[c]
theorem TW (k:f.length=a) (j:∀c,(∀b∈f,lf b.2 c a=0)->∀h,h<a->c h=0) (l:∀c,iq a c f=iq a c p):k6 f<=k6 p:=by
 have d:∀f:bm (Rat×(X->Rat)),kL (f.map λb=>(-b.1,b.2))=k6 f/\∀c,iq a c (f.map λb=>(-b.1,b.2))=-iq a c f:=λf=>by
  induction f with
  |nil=>exact⟨bn,λc=>by simp only[iq,uT];grind⟩
  |cons b f i=>
   refine⟨?_,λc=>?_⟩
   ·rw[gL,us,uh,i.1];by_cases g:b.1<0
    ·rw[au g,au (show 0< -b.1 by grind)]
    rw[ar g,ar (show¬0< -b.1 by grind)]
   rw[gL,iq,iq,i.2];grind
 have e:=LX (n:=a) (R:=f.map λb=>(-b.1,b.2)) (S:=p.map λb=>(-b.1,b.2)) (by rw[dh];exact k) (λc e=>j c λb m=>e (-b.1,b.2) (eS.2 ⟨b,m,bn⟩)) (λc=>by rw[(d f).2,(d p).2,l]);rwa[(d f).1,(d p).1] at e
theorem y9 {s:Rat} (d:s*n=h) (e:h≠0):(0<n->(0<s↔0<h)/\(s<0↔h<0))/\(n<0->(0<s↔h<0)/\(s<0↔0<h)):=by
 have f:s≠0:=λc=>e (by rw[<-d,c];grind);have a:0<s\/0< -s:=(by grind);constructor
 ·intro b;rcases a with a|a
  ·have:=ank a b;grind
  have:=ank a b;grind
 intro b;have b:0< -n:=(by grind);rcases a with a|a
 ·have:=ank a b;grind
 have:=ank a b;grind
theorem ag2 (r:n*o-h*h≠0) (d c:X->Rat) (b:X) (j:bm (Rat×(X->Rat))):(wQ n h o d c).length=2/\(∀a,iq b a (wQ n h o d c++j)=(n*(lf d a b*lf d a b)+2*h*(lf d a b*lf c a b)+o*(lf c a b*lf c a b))+iq b a j)/\(∀a,(∀B∈wQ n h o d c,lf B.2 a b=0)->lf d a b=0/\lf c a b=0)/\kL (wQ n h o d c++j)=(if n*o-h*h<0 then 1 else if 0<n then 2 else 0)+kL j/\k6 (wQ n h o d c++j)=(if n*o-h*h<0 then 1 else if 0<n then 0 else 2)+k6 j:=by
 unfold wQ;by_cases t:n=0
 ·subst t;have y:h≠0:=λf=>r (by rw[f];grind);have D:=LL h;have v:(0:Rat)*o-h*h<0:=(by grind);rw[au bn,au v,au v];have x:∀(g:Rat) a,lf (λe=>o*c e+(2*h*d e+g*c e)) a b=o*lf c a b+(2*h*lf d a b+g*lf c a b):=λg a=>by
   have:(λe=>o*c e+(2*h*d e+g*c e))=λe=>((λe=>(λ_=>(0:Rat)) e+(2*h)*d e) e)+(o+g)*c e:=(by funext e;grind);rw[this,sj,sj];have:∀q,lf (λ_=>(0:Rat)) a q=0:=λq=>by
    induction q with
    |zero=>rfl
    |succ q z=>rw[lf,z];grind
   rw[this];grind
  refine⟨bn,λa=>?_,λa l=>?_,?_,?_⟩
  ·simp only[kT,hx,iq,x];grind
  ·have m:=l _ (jd ..);have p:=l _ (gx _ (jd ..));rw[x] at m p;have w:lf c a b=0:=(by grind);rw[w] at m;have A:h*lf d a b=0:=(by grind);exact⟨(s2.1 A).resolve_left y,w⟩
  ·simp only[kT,hx,us];rw[au (by grind),ar (by grind)];omega
  simp only[kT,hx,uh];rw[ar (by grind),au (by grind)];omega
 rw[ar t];have u:(n*o-h*h)/n*n=n*o-h*h:=(by grind);refine⟨bn,λa=>?_,λa l=>?_,?_,?_⟩
 ·simp only[kT,hx,iq,sj];generalize lf d a b=E;generalize lf c a b=F;grind
 ·have m:=l _ (amE ..);have p:=l _ (amI _ (amE ..));rw[sj] at m;dsimp only at p;rw[p] at m;exact⟨by grind,p⟩
 ·have k:=y9 u r;simp only[kT,hx,us];generalize n*o-h*h=g at*;generalize g/n=C at*;have s:0<n\/n<0:=(by grind);rcases s with f|f
  ·have:=k.1 f;rw[au f];by_cases i:g<0
   ·rw[au i,ar (by grind)];omega
   rw[ar i,au f,au (by grind)];omega
  have:=k.2 f;rw[ar (show¬0<n by grind)];by_cases i:g<0
  ·rw[au i,au (by grind)];omega
  rw[ar i,ar (show¬0<n by grind),ar (by grind)];omega
 have k:=y9 u r;simp only[kT,hx,uh];generalize n*o-h*h=g at*;generalize g/n=C at*;have s:0<n\/n<0:=(by grind);rcases s with f|f
 ·have:=k.1 f;rw[ar (show¬n<0 by grind)];by_cases i:g<0
  ·rw[au i,au (by grind)];omega
  rw[ar i,au f,ar (by grind)];omega
 have:=k.2 f;rw[au f];by_cases i:g<0
 ·rw[au i,ar (by grind)];omega
 rw[ar i,ar (show¬0<n by grind),au (by grind)];omega
theorem ZH (g:X->X->Rat) {f:bm Rat} (p:sP b e f a):a<=b/\(kh g e f a).length=b-a/\(∀c,iq b c (kh g e f a)=wA (λd=>lf (g d) c b) e f a)/\(∀c,(∀j∈kh g e f a,lf j.2 c b=0)->∀d,a<=d->d<b->lf (g d) c b=0)/\kL (kh g e f a)=(mJ e f).1/\k6 (kh g e f a)=(mJ e f).2:=by
 induction p with
 |nil=>exact⟨bc _,by simp[kh],λc=>rfl,λc _ d q m=>absurd q aa,bn,bn⟩
 |@one e f n a p w=>
  obtain⟨i1,r,s,t,u,v⟩:=w;refine⟨aa,by rw[kh,iH,r];omega,λc=>by rw[kh,iq,s,wA],λc i d q m=>?_,?_,?_⟩
  ·rw[kh] at i;by_cases o:d=a
   ·subst o;exact i _ (jd ..)
   exact t c (λj k=>i j (gx _ k)) d aa m
  ·rw[kh,us,u,mJ];by_cases h:0<n
   ·rw[ca h,ca h];dsimp only;omega
   rw[b8 h,b8 h];split<;>(first|omega|(dsimp only;omega))
  rw[kh,uh,v,mJ];by_cases h:0<n
  ·rw[ca h,b8 (by grind)];dsimp only;omega
  rw[ar h];by_cases l:n<0
  ·rw[ca l,ca l];dsimp only;omega
  rw[b8 l,b8 l];first|omega|(dsimp only;omega)
 |@two e f F G H a z p w=>
  obtain⟨i1,r,s,t,u,v⟩:=w;obtain⟨A,B,C,D,E⟩:=ag2 z (g a) (g (a+1)) b (kh g e f (a+2));refine⟨aa,by rw[kh,hI,A,r];omega,λc=>by rw[kh,B,s,wA],λc i d q m=>?_,?_,?_⟩
  ·rw[kh] at i;obtain⟨al,x⟩:=C c λj k=>i j (lT _ k);by_cases o:d=a
   ·subst o;exact al
   by_cases y:d=a+1
   ·subst y;exact x
   exact t c (λj k=>i j (ln _ k)) d aa m
  ·rw[kh,D,u,mJ];split
   ·dsimp only;omega
   split<;>(dsimp only;omega)
  rw[kh,E,v,mJ];split
  ·dsimp only;omega
  split<;>(dsimp only;omega)
theorem ahc {c:X->X->Rat} (q:∀f,f<a->c f f=1) (p:∀f b,b<f->f<a->c f b=0) (h:X->Rat) (u:∀f,f<a->lf (c f) h a=0):∀b,b<a->h b=0:=by
 suffices t:∀i b,b+i=a->∀d,b<=d->d<a->h d=0 fromλb j=>t (a-b) b aa b (bc _) j;intro i
 induction i with
 |zero=>intro b j d r g;omega
 |succ i v=>
  intro b j d r g;have l:=v (b+1) aa;by_cases n:d=b
  ·subst n;have m:=u d g;have s:∀e,e<=a->lf (c d) h e=if d<e then h d else 0:=λe=>by
    induction e with
    |zero=>intro _;rfl
    |succ e w=>
     intro x;rw[lf,w aa];by_cases k:d<e
     ·rw[au k,au aa,l e aa aa];grind
     rw[ar k];by_cases o:e=d
     ·subst o;rw[au aa,q e g];grind
     rw[ar aa,p d e aa g];grind
   rw[s a (bc _),au g] at m;exact m
  exact l d aa g
theorem afi {a:Z} (e:aF a.natAbs<=3000000) (f:aF j.natAbs<=3000000) (t:j≠0) (v:a=c*j):vz (aN a,aN j,())=Y (aN c,aN 0,()):=by
 obtain⟨d,g,h⟩:=hM e;obtain⟨i,k,A⟩:=hM f;have u:(aN j).2.1≠[]:=λm=>t (vM.1 m);unfold vz;refine ai (sx e) (ai (sx f) ?_);dsimp only;refine ai (SB d i g k aa aa u) ?_;rw[h5,h5];have w:(aN a).1=br (a<0):=rfl;have x:(aN j).1=br (j<0):=rfl;rw[w,x];have o:(a.natAbs:Z)=(c.natAbs:Z)*(j.natAbs:Z):=(by rw[v,Int.natAbs_mul,amM]);have p:(a.natAbs:Z)/(j.natAbs:Z)=c.natAbs:=(by simp_all);have q:(a.natAbs:Z) %(j.natAbs:Z)=0:=(by simp_all);rw[p,q];have D:(c.natAbs:Z)<=a.natAbs:=(by rw[o];have:(c.natAbs:Z)*1<=(c.natAbs:Z)*(j.natAbs:Z):=anM aa aa;omega);have C:(eX (c.natAbs:Z).toNat).length<=100000:=zj (l:=(aN a).2.1) d h (by grind [h5]);dsimp only;refine ai (rc (nC _) aa (r8 aa)) (ai (rc (nC _) ab (r8 ab)) ?_);dsimp only;have n:(if br (a<0)=bp then-(0:Z) else 0)=0:=aa;rw[n];have r:(if(!(br (a<0)==br (j<0)))=bp then-(c.natAbs:Z) else(c.natAbs:Z))=c:=by
  by_cases B:c=0
  ·omega
  rcases iy j 0 with s|s
  ·rcases iy c 0 with b|b
   ·grind
   grind
  rcases iy c 0 with b|b
  ·have:a<0:=(by grind);rw[aH this,aD (aa:¬j<0)];simp;omega
  grind
 rw[r];refine ai (y:=((bq,([],())),(bq,([],())),aN c,aN 0,())) ?_ bn;refine ai (kP (z:=0) ab) ?_;rfl
def GF {q:Z} (d:aF j.natAbs<=3000000) (e:aF c.natAbs<=3000000) (a:c≠0) (b:j=q*c):AJ (aN j,aN c,())=Y (aN q,bp,()):=by unfold AJ;refine ai (afi d e a b) ?_;dsimp only;refine ai (kP (z:=0) ab) ?_;rfl
theorem SM (f:aF c.natAbs<=3000000) (g:aF j.natAbs<=3000000):Em (aN c,aN j,())=Y (aN (anX c j),()):=by
 unfold Em;refine ai (Gs f) (ai (Gs g) ?_);refine bO.1 ?_;dsimp only;refine bG (P:=λm=>m=((bq,([],())),aN (anX c j),())) ?_ (by grind [bv]);refine alv (λd=>∃b a:X,d=((bq,([],())),aN (b:Z),aN (a:Z),())/\Nat.gcd b a=anX c j/\aF b<=3000000/\aF a<=3000000) (λd=>(hu d.2.2.1).toNat) ⟨c.natAbs,j.natAbs,bn,bn,f,g⟩ ?_;rintro _ ⟨b,a,rfl,i,n,e⟩;dsimp only;refine bA (kP (z:=(a:Z)) (by grind)) ?_;dsimp only;by_cases h:a=0
 ·subst h;rw[fQ,show fB ((0:X):Z)=0 from rfl,aH bn,a2 (by rfl)];grind [Nat.gcd_zero_right,bv]
 have l:fB (a:Z)≠0:=(by simp_all [ar,fB]);rw[fQ,aD l,a7 (by rfl)];refine bA (afj (x:=(b:Z)) (y:=(a:Z)) (by grind) (by grind) aa aa) ?_;have k:b %a<a:=rI _ aa;refine bv.2 ⟨⟨a,b %a,by rw[apz],?_,e,cO (jU (Nat.le_of_lt k)) e⟩,?_⟩
 ·rw[<-i,aq5 b a,Nat.gcd_rec a b,aq5]
 grind [apz,oy,alL]
abbrev Hj:=oz×oz×bt
def gm (a:Z×Z):Hj:=(aN a.1,aN a.2,())
def ns (b:X) (a:Z×Z):Prop:=0<a.2/\aF a.1.natAbs<=b/\aF a.2.natAbs<=b
def eP (a:Z×Z):Rat:=(a.1:Rat)/(a.2:Rat)
def wB (b:c≠0):(c:Rat)≠0:=λa=>b (apO.1 (a.trans (by rfl)))
theorem SL {num den:Z} {B:X} (h:B<=3000000) (v:aF num.natAbs<=B) (o:aF den.natAbs<=B) (n:den≠0):∃k,AR (aN num,aN den,())=Y (gm k,())/\ns B k/\eP k=(num:Rat)/(den:Rat):=by
 obtain⟨c,i⟩:=Int.gcd_dvd_left num den;obtain⟨a,f⟩:=Int.gcd_dvd_right num den;have w:(anX num den:Z)≠0:=(by grind);generalize p:anX num den=b at*;have j:aF b<=B:=(by refine cO (jU ?_) o;have d:=b3 amG f;rw[lj,w6] at d;exact Nat.le_of_dvd aa ⟨_,d⟩);have t:∀{l e:Z},l=(b:Z)*e->aF l.natAbs<=B->aF e.natAbs<=B:=λ{l e} d u=>(by refine cO (jU ?_) u;rw[d,lj];have:1*e.natAbs<=(b:Z).natAbs*e.natAbs:=gj _ aa;omega);have m:a≠0:=λd=>n (by rw[f,d,am8]);have r:(c:Rat)/(a:Rat)=(num:Rat)/(den:Rat):=(by have:=wB m;have:=wB n;have:=wB w;have al:(num:Rat)=(b:Z)*c:=(by simp_all);have x:(den:Rat)=(b:Z)*a:=(by simp_all);grind);unfold AR;by_cases z:den<0
 ·refine⟨(-c,-a),?_,⟨by
   grind [am7,al8],by simp_all,by simp_all⟩,?_⟩
  ·refine ai (SM aa aa) ?_;rw[p];refine ai (y:=(((bq,([],())),((bq,([],())),())),aN (-(b:Z)),())) ?_ ?_
   ·refine ai (kP aa) ?_;dsimp only;have:fB den<0:=(by simp_all [b8,ca,fB]);rw[a7 (aH this)];refine ai (Lw (by simpa using Nat.le_trans j h)) rfl
   dsimp only;have g:aF (-(b:Z)).natAbs<=3000000:=(by rw[ana];simpa using Nat.le_trans j h);refine ai (GF (q:=-c) aa g aa (by rw[i,aq6,alM])) (ai (GF (q:=-a) aa g aa (by rw[f,aq6,alM])) ?_);rfl
  rw[<-r];show((-c:Z):Rat)/((-a:Z):Rat)=_;have:=wB m;rw[aq7,aq7];grind
 refine⟨(c,a),?_,⟨by
  show 0<a;rcases iy 0 a with s|s
  ·exact s
  have:=lO (aa:(0:Z)<=(b:Z)) (aa:0<=-a);grind,t i v,t f o⟩,r⟩
 refine ai (SM aa aa) ?_;rw[p];refine ai (y:=(((bq,([],())),((bq,([],())),())),aN (b:Z),())) ?_ ?_
 ·refine ai (kP aa) ?_;simp_all [a2,aD,ar,fB]
 dsimp only;have g:aF (b:Z).natAbs<=3000000:=(by simpa using Nat.le_trans j h);refine ai (GF (q:=c) aa g aa (by rw[i,alM])) (ai (GF (q:=a) aa g aa (by rw[f,alM])) ?_);rfl
theorem ae0 {b c a:Rat} (d:h≠0) (e:n≠0) (f:o≠0) (g:a≠0):b*c*a/(h*n*o)=(b/h)*(c/n)/(o/a):=by grind
theorem ae1 {a:Rat} (c:n≠0) (b:h≠0):(a*h-o*n)/(n*h)=a/n-o/h:=by grind
theorem ae2:n-o/h=n-1/h*o:=by grind
theorem Su {x y z w:Z×Z} {A B C:X} (u:ns A x) (v:ns B y) (D:ns B z) (s:ns B w) (t:w.1≠0) (O:A+3*B+1<=C) (r:C<=3000000):∃c,tA (gm x,gm y,gm z,gm w,())=Y (gm c,())/\ns C c/\eP c=eP x-1/eP w*(eP y*eP z):=by
 obtain⟨h,K,i⟩:=u;obtain⟨j,k,l⟩:=v;obtain⟨m,n,o⟩:=D;obtain⟨H,I,J⟩:=s;have h:x.2≠0:=aa;have j:y.2≠0:=aa;have m:z.2≠0:=aa;have H:w.2≠0:=aa;have b:∀{d e:Z} {f g:X},aF d.natAbs<=f->aF e.natAbs<=g->aF (d*e).natAbs<=f+g:=λM N=>(by simp_all [xA,lj]);have T:=b (b k n) J;have U:=b (b l o) I;obtain⟨a,p,⟨f2,q,f4⟩,f5⟩:=SL (num:=y.1*z.1*w.2) (den:=y.2*z.2*w.1) (B:=3*B) aa aa aa (anT (anT j m) t);have f2:a.2≠0:=aa;have G:=b K f4;have Q:=b q i;have R:aF (x.1*a.2-a.1*x.2).natAbs<=A+3*B+1:=(by refine cO (jU ?_) (Wc (A+3*B) (x:=(x.1*a.2).natAbs) (y:=(a.1*x.2).natAbs) G aa);omega);have S:=b i f4;obtain⟨c,E,F,P⟩:=SL (num:=x.1*a.2-a.1*x.2) (den:=x.2*a.2) (B:=C) r aa aa (anT h f2);refine⟨c,?_,F,?_⟩
 ·unfold tA;have al:=b k n;have L:=b l o;refine ai (uw (x:=y.1) (y:=z.1) aa aa) (ai (uw (x:=y.1*z.1) (y:=w.2) aa aa) (ai (uw (x:=y.2) (y:=z.2) aa aa) (ai (uw (x:=y.2*z.2) (y:=w.1) aa aa) (ai p ?_))));refine ai (uw (x:=x.1) (y:=a.2) aa aa) (ai (uw (x:=a.1) (y:=x.2) aa aa) (ai (S6 aa aa) (ai (uw (x:=x.2) (y:=a.2) aa aa) (ai E bn))))
 simp_all [wB,oP,ae0,aq8,ae1,ae2,al,eP]
section
section
variable {n:X}
def afw (h:n<=1000) (g:∀a b,a<n->b<n->aF (k a b).natAbs<=3000000):EB (fV n n (λa b=>aN (k a b)),())=Y (fV n n (λa b=>gm (k a b,1)),()):=by
 unfold EB;refine bO.1 ?_;dsimp only;refine bG (P:=λd=>d=(fV n n (λa b=>gm (k a b,1)),())) ?_ (by rintro _ rfl;exact bv.2 bn);refine bR n (λa e=>e=((a:Z),fV a n (λa b=>gm (k a b,1)),())) rfl ?_ ?_
 ·rintro a _ c rfl;dsimp only;rw[bb,pd,a7 (aH (aa:(a:Z)<(n:Z))),bg aa];refine bG (P:=λd=>d=(fV a n (λa b=>gm (k a b,1)),az n (λb=>gm (k a b,1)),())) ?_ ?_
  ·refine bR n (λb e=>e=((b:Z),fV a n (λa b=>gm (k a b,1)),az b (λb=>gm (k a b,1)),())) rfl ?_ ?_
   ·rintro b _ f rfl;dsimp only;refine bA (ou c) ?_;rw[bb,cI,a7 (aH (aa:(b:Z)<(n:Z))),bg aa];refine bA (ou c) (bA (gJ (gV f)) ?_);refine bA (sx (g a b c f)) (bA (GA ab ab) ?_);dsimp only;rw[e3 (by rw[cI];simp;omega),bN];refine bv.2 ?_;show _=_;rw[o3];rfl
   rintro _ rfl;dsimp only;refine bA (ou c) ?_;rw[bb,cI,a2 (aD (aa:¬((n:Z)<(n:Z))))];exact bv.2 bn
  rintro _ rfl;dsimp only;rw[e3 (by rw[pd];simp;omega),bN];refine bv.2 ?_;show _=_;unfold fV;rw[o3]
 rintro _ rfl;dsimp only;rw[bb,pd,a2 (aD (aa:¬((n:Z)<(n:Z))))];exact bv.2 bn
theorem Th {a:Z×Z} (b:aF a.1.natAbs<=3000000):AS (gm a,())=Y (br (a.1=0),()):=by
 unfold AS;refine ai (kP b) ?_;dsimp only;congr 2;rw[g2,cB];unfold fB;split
 ·simp_all
 split<;>simp_all
def Kv (b:a<e.length):aw (e.map λc:X=>(c:Z)) (a:Z)=Y (e[a]:Z):=by rw[eT (by rw[dh];exact b),lR]
def zJ (e:X->X->Z×Z) (b:ak9) (f g:Z):Prop:=
 (∃a∈b,f=(a:Z)/\g=(a:Z)/\(e a a).1≠0)\/
 (∃c∈b,∃d∈b,c≠d/\f=(c:Z)/\g=(d:Z)/\(e c d).1≠0/\∀a∈b,(e a a).1=0)\/
 (f=-1/\g=-1/\(∀a∈b,(e a a).1=0)/\∀c d (h:c<b.length) (i:d<c),(e b[c] b[d]).1=0)
def afI {T:X->X->Z×Z} {l:ak9} (I:n<=1000) (y:∀m∈l,m<n) (E:l.Nodup) (H:l.length<=1000) (A:∀a c,a<n->c<n->aF (T a c).1.natAbs<=3000000):ae (EC (fV n n (λa c=>gm (T a c)),l.map (λz:X=>(z:Z)),())) λo=>zJ T l o.1 o.2.1:=by
 unfold EC;dsimp only;have u:ao (l.map (λz:X=>(z:Z)))=(l.length:Z):=(by rw[bb,b9]);refine bG (P:=λo=>match o with|.inl _=>∀m∈l,(T m m).1=0|.inr d=>zJ T l d.1 d.2.1) ?_ ?_
 ·refine bR l.length (λa t=>t=((a:Z),())/\∀h (s:h<l.length),h<a->(T l[h] l[h]).1=0) ⟨bn,λh _ r=>absurd r (oL _)⟩ ?_ ?_
  ·rintro a _ e ⟨rfl,q⟩;have j:=y _ (b6 e);dsimp only;rw[u,a7 (aH (aa:(a:Z)<(l.length:Z))),bg aa,Kv e];simp only[bN];refine bA (ou j) (bA (gJ (gV j)) (bA (Th (A _ _ j j)) ?_));dsimp only;by_cases i:(T l[a] l[a]).1=0
   ·rw[aH i,a2 (by rfl)];refine bv.2 ⟨bn,λh s J=>?_⟩;by_cases p:h=a
    ·subst p;exact i
    exact q h s aa
   rw[aD i,a7 (by rfl)];exact bv.2 (.inl ⟨l[a],cL e,bn,bn,i⟩)
  rintro _ ⟨rfl,q⟩;dsimp only;rw[u,a2 (aD (aa:¬((l.length:Z)<(l.length:Z))))];refine bv.2 ?_;intro m j;obtain⟨h,s,rfl⟩:=al7.1 j;exact q h s s
 rintro(d|d) g
 rotate_left
 ·exact bv.2 g
 have C:∀m∈l,(T m m).1=0:=g;dsimp only;refine bG (P:=λo=>match o with|.inl _=>∀a c (e:a<l.length) (w:c<a),(T l[a] l[c]).1=0|.inr d=>zJ T l d.1 d.2.1) ?_ ?_
 ·refine bR l.length (λa t=>t=((a:Z),())/\∀k b (B:k<l.length) (f:b<k),k<a->(T l[k] l[b]).1=0) ⟨bn,λk b _ _ r=>absurd r (oL _)⟩ ?_ ?_
  ·rintro a _ e ⟨rfl,q⟩;have j:=y _ (b6 e);dsimp only;rw[u,a7 (aH (aa:(a:Z)<(l.length:Z))),bg aa];refine bG (P:=λo=>match o with|.inl _=>∀b (f:b<a),(T l[a] l[b]).1=0|.inr (.inl _)=>b4|.inr (.inr (.inl _))=>b4|.inr (.inr (.inr d))=>zJ T l d.1 d.2.1) ?_ ?_
   ·refine bR a (λc t=>t=((c:Z),())/\∀b (f:b<a),b<c->(T l[a] l[b]).1=0) ⟨bn,λb _ r=>absurd r (oL _)⟩ ?_ ?_
    ·rintro c _ w ⟨rfl,v⟩;have x:c<l.length:=aa;have D:=y _ (b6 x);dsimp only;rw[a7 (aH (aa:(c:Z)<(a:Z))),bg aa,Kv e,Kv x];simp only[bN];refine bA (ou j) ?_;refine bA (gJ (gV D)) (bA (Th (A _ _ j D)) ?_);dsimp only;by_cases i:(T l[a] l[c]).1=0
     ·rw[aH i,a2 (by rfl)];refine bv.2 ⟨bn,λb f G=>?_⟩;by_cases p:b=c
      ·subst p;exact i
      exact v b f aa
     rw[aD i,a7 (by rfl)];refine bv.2 ?_;show zJ T l _ _;exact .inr (.inl ⟨l[a],cL e,l[c],cL x,λp=>absurd ((qq E).1 p) aa,bn,bn,i,C⟩)
    rintro _ ⟨rfl,v⟩;dsimp only;rw[a2 (aD (aa:¬((a:Z)<(a:Z))))];exact bv.2 λb f=>v b f f
   rintro(d|d|d|d) g
   ·refine bv.2 ⟨bn,λk b B f F=>?_⟩;by_cases p:k=a
    ·subst p;exact g b f
    exact q k b B f aa
   ·exact g.elim
   ·exact g.elim
   exact bv.2 g
  rintro _ ⟨rfl,q⟩;dsimp only;rw[u,a2 (aD (aa:¬((l.length:Z)<(l.length:Z))))];exact bv.2 λa c e w=>q a c e w e
 rintro(d|d) g
 ·exact bv.2 (.inr (.inr ⟨bn,bn,C,g⟩))
 exact bv.2 g
end
end
section
theorem y2 {n:X} {E:X->X->m} (e:a<i) (f:b<n):(a5 (fV i n E) a λc=>a5 c b λd=>Y d)=Y (E a b):=by simp_all [hb,gV,fV]
theorem ns.mono {B:X} {p:Z×Z} (b:ns a p) (c:a<=B):ns B p:=⟨b.1,cO b.2.1 c,cO b.2.2 c⟩
theorem ahd (E:X->X->Z×Z) (c d:X) (e:Z×Z):iv (λa b=>gm (E a b)) c d (gm e)=λa b=>gm (iv E c d e a b):=by grind [iv]
def q3 (T:X->X->Z×Z) (p q a b:X):Rat:=
 if p=q then eP (T a b)-1/eP (T p q)*(eP (T a p)*eP (T q b)) else eP (T a b)-1/eP (T p q)*(eP (T a p)*eP (T q b))-1/eP (T p q)*(eP (T a q)*eP (T p b))
theorem Q4 {T:X->X->Z×Z} {l:ak9} (g:∀c∈l,∀d∈l,eP (T c d)=eP (T d c)) {p q:X} (e:p∈l) (f:q∈l) (h:a∈l) (i:b∈l):q3 T p q a b=q3 T p q b a:=by unfold q3;grind
def qO (S:ak9) (c f d e:X):Prop:=∃a b,b<=a/\(a<c\/(a=c/\b<f))/\((S[a]?=Y d/\S[b]?=Y e)\/(S[a]?=Y e/\S[b]?=Y d))
section
variable {n:X} {T:X->X->Z×Z} {S l:ak9} {p q B C:X}
theorem Xl (k:S.Nodup) (i:a<S.length) (j:b<=a):¬qO S a b S[a] (S[b]'(by omega)):=by
 rintro⟨e,f,g,h,⟨c,d⟩|⟨c,d⟩⟩
 ·grind [ang,al1]
 grind [al1,ang]
theorem I2 {f:X} (c:qO S i f a b):a∈S/\b∈S:=by
 obtain⟨g,h,_,_,⟨d,e⟩|⟨d,e⟩⟩:=c
 ·grind
 grind
theorem Oz {x y:X} (k:a<S.length) (h:b<=a):qO S a (b+1) x y↔qO S a b x y\/(x=S[a]/\y=S[b]'(by omega))\/(x=S[b]'(by omega)/\y=S[a]):=by
 have al:S[a]?=Y S[a]:=cE k;have g:S[b]?=Y (S[b]'(by omega)):=cE aa
 constructor
 ·rintro⟨c,d,e,j,f⟩;by_cases i:c<a\/(c=a/\d<b)
  ·exact .inl ⟨c,d,e,i,f⟩
  grind
 rintro(⟨c,d,e,j,f⟩|⟨rfl,rfl⟩|⟨rfl,rfl⟩)
 ·exact⟨c,d,e,aa,f⟩
 ·exact⟨a,b,h,.inr ⟨bn,aa⟩,.inl ⟨al,g⟩⟩
 exact⟨a,b,h,.inr ⟨bn,aa⟩,.inr ⟨al,g⟩⟩
def OA:qO S a (a+1) b i↔qO S (a+1) 0 b i:=by
 constructor
 ·rintro⟨c,d,e,g,f⟩;exact⟨c,d,e,aa,f⟩
 rintro⟨c,d,e,g,f⟩;exact⟨c,d,e,aa,f⟩
def Xk:qO S S.length 0 a b↔a∈S/\b∈S:=by
 refine⟨I2,?_⟩;rintro⟨h,i⟩;obtain⟨c,f,rfl⟩:=g8.1 h;obtain⟨d,g,rfl⟩:=g8.1 i;rcases Nat.le_total d c with e|e
 ·exact⟨c,d,e,.inl f,.inl ⟨cE f,cE g⟩⟩
 exact⟨d,c,e,.inl g,.inr ⟨cE g,cE f⟩⟩
def GW (n:X) (T:X->X->Z×Z) (S:ak9) (p q C d e:X) (f:bm (bm Hj)):Prop:=∃c:X->X->Z×Z,f=fV n n (λa b=>gm (c a b))/\(∀a b,qO S d e a b->ns C (c a b)/\eP (c a b)=q3 T p q a b)/\∀a b,¬qO S d e a b->c a b=T a b
theorem ahi (mc:n<=1000) (u:∀a∈S,a<n/\a≠p/\a≠q/\a∈l) (d2:S.Nodup) (k:p<n) (m:q<n) (mo:p∈l) (mp:q∈l) (mz:∀c∈l,∀d∈l,eP (T c d)=eP (T d c)) (r:∀a b,a<n->b<n->ns B (T a b)) (ds:(T p q).1≠0) (gl:S≠[]->4*B+1<=C/\(p≠q->7*B+2<=C)/\C<=3000000):ae (loop (σ:=(Z×ig×aM×jR×bt)) (ρ:=(ig×aM×bt)) (λ(K,cs,bx,fp,_)=>
 bif br (K<ao bx) then
 (loop (σ:=(Z×ig×aM×jR×bt)) (ρ:=(ig×aM×jR×bt)) (λ(an,e,E,t,_)=>
  bif br (an<=K) then
 bB (α:=(ig×aM×jR×bt)) (
 rd E K λF=>
 rd E an λG=>
 (be e.length F).bind λd7=>
 ((a5 e d7 λf5=>Y f5).bind λf6=>be f6.length G).bind λhv=>
 (a5 e d7 λf7=>a5 f7 hv λf8=>Y f8).bind λi3=>
 (be e.length F).bind λd8=>
 ((a5 e d8 λf9=>Y f9).bind λgc=>be gc.length (p:Z)).bind λhw=>
 (a5 e d8 λge=>a5 ge hw λgf=>Y gf).bind λi8=>
 (be e.length (q:Z)).bind λd4=>
 ((a5 e d4 λft=>Y ft).bind λfz=>be fz.length G).bind λhs=>
 (a5 e d4 λfT=>a5 fT hs λf0=>Y f0).bind λi2=>
 (tA (i3,i8,i2,t,())).bind λ(d9,_)=>
 bB (α:=(ig×aM×jR×jR×bt)) (bif (p:Z)!=(q:Z) then
 (be e.length F).bind λv=>
 ((a5 e v λN=>Y N).bind λO=>be O.length (q:Z)).bind λap=>
 (a5 e v λQ=>a5 Q ap λR=>Y R).bind λci=>
 (be e.length (p:Z)).bind λD=>
 ((a5 e D λU=>Y U).bind λV=>be V.length G).bind λav=>
 (a5 e D λad=>a5 ad av λam=>Y am).bind λco=>
 (tA (d9,ci,co,t,())).bind λ(bl,_)=>
 Y (e,E,t,bl,()) else
 Y (e,E,t,d9,())) λ(H,id,ex,ek,_)=>
 (be H.length F).bind λa0=>
 ((a5 H a0 λf1=>Y f1).bind λf2=>be f2.length G).bind λd5=>
 (a5 H a0 λc2=>(a5 c2 d5 λ_=>Y (c2.set d5 ek)).map λjp=>H.set a0 jp).bind λM=>
 (be M.length G).bind λa3=>
 ((a5 M a3 λf3=>Y f3).bind λf4=>be f4.length F).bind λd6=>
 (a5 M a3 λdg=>(a5 dg d6 λ_=>Y (dg.set d6 ek)).map λkd=>M.set a3 kd).bind λkg=>
 Y (kg,id,ex,())) λ(en,ii,fl,_)=>
 Y (.inl (aQ an,en,ii,fl,())) else
 Y (.inr (e,E,t,()))) (0,cs,bx,fp,())).bind λ(eq,io,fn,_)=>
 Y (.inl (aQ K,eq,io,fn,())) else
 Y (.inr (cs,bx,()))) (0,fV n n (λa b=>gm (T a b)),S.map (λa:X=>(a:Z)),gm (T p q),()))
 λa4=>∃f,a4=(f,S.map (λa:X=>(a:Z)),())/\GW n T S p q C S.length 0 f:=by
 have lo:S.length<=n:=(by have:=d2.length_le_of_subset (l₂:=bI n) λa i=>fN.2 (u a i).1;grind);refine bR S.length (λc ce=>∃f,ce=((c:Z),f,S.map (λa:X=>(a:Z)),gm (T p q),())/\GW n T S p q C c 0 f) ⟨_,bn,T,bn,λa b g=>by
  obtain⟨f,lc,d0,d1,ll⟩:=g;omega,λa b _=>rfl⟩ ?_ ?_
 ·rintro c _ J ⟨lb,rfl,gs⟩;obtain⟨le,fs,lf⟩:=gl (λc1=>by grind);obtain⟨i,ne,nn,nd⟩:=u _ (b6 J);dsimp only;rw[bb,b9,a7 (aH (aa:(c:Z)<(S.length:Z))),bg aa];refine bG (P:=λa4=>∃f,a4=(f,S.map (λa:X=>(a:Z)),gm (T p q),())/\GW n T S p q C c (c+1) f) ?_ ?_
  ·refine bR (c+1) (λd ce=>∃f,ce=((d:Z),f,S.map (λa:X=>(a:Z)),gm (T p q),())/\GW n T S p q C c d f) ⟨_,bn,gs⟩ ?_ ?_
   ·rintro d _ l2 ⟨f,rfl,h,rfl,gt,d3⟩;have hc:d<S.length:=aa;obtain⟨j,nx,n7,no⟩:=u _ (b6 hc);dsimp only;rw[a7 (aH (aa:(d:Z)<=(c:Z))),bg aa,iE (by grind),iE (by grind),anb,anb];have hi:p∉S:=λg=>(u p g).2.1 bn;have hr:q∉S:=λg=>(u q g).2.2.1 bn;have is:h S[c] S[d]=T S[c] S[d]:=d3 _ _ (Xl d2 J aa);have el:∀a b,a∉S\/b∉S->h a b=T a b:=λa b g=>d3 _ _ λI=>g.elim (λo=>o (I2 I).1) (λo=>o (I2 I).2);have fr:=r _ _ i j;have cv:=r _ _ k m;obtain⟨L,ix,em,of⟩:=Su (x:=T S[c] S[d]) (y:=T S[c] p) (z:=T q S[d]) (w:=T p q) (A:=B) (B:=B) (C:=4*B+1) fr (r _ _ i k) (r _ _ m j) cv ds aa aa;have ib:∃s,ns C s/\eP s=q3 T p q S[c] S[d]/\(bif (p:Z)!=(q:Z) then
     (be (fV n n (λa b=>gm (h a b))).length (S[c]:Z)).bind λv=>
     ((a5 (fV n n (λa b=>gm (h a b))) v λN=>Y N).bind λO=>be O.length (q:Z)).bind λap=>
     (a5 (fV n n (λa b=>gm (h a b))) v λQ=>a5 Q ap λR=>Y R).bind λci=>
     (be (fV n n (λa b=>gm (h a b))).length (p:Z)).bind λD=>
     ((a5 (fV n n (λa b=>gm (h a b))) D λU=>Y U).bind λV=>be V.length (S[d]:Z)).bind λav=>
     (a5 (fV n n (λa b=>gm (h a b))) D λad=>a5 ad av λam=>Y am).bind λco=>
     (tA (gm L,ci,co,gm (T p q),())).bind λ(bl,_)=>
     Y (fV n n (λa b=>gm (h a b)),S.map (λa:X=>(a:Z)),gm (T p q),bl,()) else
     Y (fV n n (λa b=>gm (h a b)),S.map (λa:X=>(a:Z)),gm (T p q),gm L,()))=Y (fV n n (λa b=>gm (h a b)),S.map (λa:X=>(a:Z)),gm (T p q),gm s,()):=by
     by_cases I:p=q
     ·refine⟨L,em.mono aa,?_,?_⟩
      ·simp_all [au,q3]
      grind
     have lk:=fs I;obtain⟨ic,ok,i1,eD⟩:=Su (x:=L) (y:=T S[c] q) (z:=T p S[d]) (w:=T p q) (A:=4*B+1) (B:=B) (C:=C) em (r _ _ i m) (r _ _ k j) cv ds aa aa;refine⟨ic,i1,?_,?_⟩
     ·simp_all [ar,q3]
     rw[fQ,aD (aa:¬(p:Z)=(q:Z)),a7 (by rfl)];refine ai (ux i) (ai (uy i m) (ai (y2 i m) (ai (ux k) (ai (uy k j) (ai (y2 k j) ?_)))));grind
    obtain⟨s,v1,fb,i0⟩:=ib;refine bA (y:=(fV n n (λa b=>gm (iv (iv h S[c] S[d] s) S[d] S[c] s a b)),S.map (λa:X=>(a:Z)),gm (T p q),())) ?_ ?_
    ·refine ai (ux i) (ai (uy i j) (ai (y2 i j) (ai (ux i) (ai (uy i k) (ai (y2 i k) (ai (ux m) (ai (uy m j) (ai (y2 m j) ?_))))))));rw[is,el _ _ (.inr hi),el _ _ (.inl hr)];refine ai ix (ai i0 ?_);simp_all [ahd,ai,ux,uy,afP]
    refine bv.2 ⟨_,bn,_,bn,λa b g=>?_,λa b g=>?_⟩
    ·unfold iv;by_cases dl:a=S[d]/\b=S[c]
     ·rw[au dl];grind [Q4]
     rw[ar dl];by_cases gi:a=S[c]/\b=S[d]
     ·grind
     rw[ar gi];refine gt a b ?_;rcases(Oz J aa).1 g with o|o|o
     ·exact o
     ·omega
     omega
    have lt:=mt (Oz (x:=a) (y:=b) J (aa:d<=c)).2 g;simp_all [ar,iv]
   rintro _ ⟨f,rfl,go⟩;dsimp only;rw[a2 (aD (aa:¬(((c+1:X):Z)<=(c:Z))))];grind [bv]
  rintro _ ⟨f,rfl,h,c1,d0,d1⟩;refine bv.2 ⟨f,bn,h,c1,λa b g=>d0 a b (OA.2 g),λa b g=>d1 a b (mt OA.1 g)⟩
 rintro _ ⟨f,rfl,go⟩;dsimp only;rw[bb,b9,a2 (aD (aa:¬((S.length:Z)<(S.length:Z))))];grind [bv]
end
end
theorem PQ (f:h≠0):(0<1/h↔0<h)/\(1/h<0↔h<0):=by
 have e:1/h*h=1:=(by grind);have:=y9 e ab;rcases(show 0<h\/h<0 by grind) with a|a
 ·obtain⟨c,d⟩:=this.1 a;constructor
  ·exact⟨λ_=>a,λ_=>c.2 ab⟩
  exact⟨λb=>absurd (d.1 b) ab,λb=>by grind⟩
 obtain⟨c,d⟩:=this.2 a;constructor
 ·exact⟨λb=>absurd (c.1 b) ab,λb=>by grind⟩
 exact⟨λ_=>a,λ_=>d.2 ab⟩
theorem yW {p:Z×Z} (l:0<p.2):(eP p<0↔p.1<0)/\(0<eP p↔0<p.1)/\(eP p=0↔p.1=0):=by
 have m:(0:Rat)<(p.2:Rat):=anY.2 l;have f:eP p*(p.2:Rat)=(p.1:Rat):=(by unfold eP;grind);have j:(p.1:Rat)<0↔p.1<0:=(by have:=aq9 (a:=p.1) (b:=0);simpa using this);have k:(0:Rat)<(p.1:Rat)↔0<p.1:=anY;have g:(p.1:Rat)=0↔p.1=0:=(by have:=apO (a:=p.1) (b:=0);simpa using this);by_cases d:p.1=0
 ·have e:=g.2 d;rw[e] at f;have:eP p=0:=(s2.1 f).resolve_right (by grind);rw[this,d];exact⟨ac,ac,ac⟩
 have e:(p.1:Rat)≠0:=λc=>d (g.1 c);obtain⟨h,i⟩:=(y9 f e).1 m;refine⟨i.trans j,h.trans k,λc=>?_,λc=>absurd c d⟩;rw[c] at f;exact absurd (by grind) e
def jT (a b:X):X:=4^b*(a+1)-1
def Ns (a b:X):jT a (b+1)=4*jT a b+3:=by unfold jT;have:0<4^b*(a+1):=Nat.mul_pos (Nat.pow_pos ab) aa;rw[nX,apI];omega
def xq (c:i<=b):jT a i<=jT a b:=Nat.sub_le_sub_right (gj _ (rJ ab c)) 1
def CZ (a b:X):a<=jT a b:=by have:jT a 0<=jT a b:=xq (eJ _);simpa[jT] using this
structure Mz (UD:X->X->Rat) (n B:X) (T:X->X->Z×Z) (l:ak9) (neg pos:X):Prop where
 nd:l.Nodup
 lt:∀k∈l,k<n
 LW:∀i∈l,∀j∈l,eP (T i j)=eP (T j i)
 b:∀x y,x<n->y<n->ns (jT B (n-l.length)) (T x y)
 c:neg+pos+l.length=n
 el:∀Hy,mQ (λi j=>eP (T i j)) l Hy->∃R,mQ UD (bI n) R/\kL R=pos+kL Hy/\k6 R=neg+k6 Hy
def ahB:eR b (eR a e)=e.filter λc=>br (c≠a)&&br (c≠b):=by unfold eR;rw[zA];refine qo λc _=>Bool.and_comm _ _
def afs {f:bm (bm Hj)} (D:e.length<=1000):loop (σ:=(Z×ig×aM×aM×bt)) (ρ:=(ig×aM×bt)) (λ(g,j,h,m,_)=>
 bif br (g<ao h) then
 bB (α:=(ig×aM×aM×bt)) (
 bB (α:=(bz×ig×aM×aM×bt)) (
 rd h g λA=>
  bif (A !=(a:Z))==bp then rd h g λB=>
 Y ((B !=(b:Z)),j,h,m,()) else Y (bq,j,h,m,())) λ(z,o,l,n,_)=>
  bif z then
 rd l g λt=>
 (cN (n.length+([t]).length)).bind λ_=>
 Y (o,l,(n++[t]),()) else
 Y (o,l,n,())) λ(u,v,w,_)=>
 Y (.inl (aQ g,u,v,w,())) else
 Y (.inr (j,m,()))) (0,f,e.map (λc:X=>(c:Z)),[],())=Y (f,(e.filter λc=>br (c≠a)&&br (c≠b)).map (λc:X=>(c:Z)),()):=by
 refine bO.1 ?_;refine bR e.length (λd x=>x=((d:Z),f,e.map (λc:X=>(c:Z)),((e.take d).filter λc=>br (c≠a)&&br (c≠b)).map (λc:X=>(c:Z)),())) rfl ?_ ?_
 ·rintro d _ i rfl;dsimp only;rw[bb,b9,a7 (aH (aa:(d:Z)<(e.length:Z))),bg aa];have C:((e.take d).filter λc=>br (c≠a)&&br (c≠b)).length<=1000:=cx (alF _ _) (by rw[alD];omega);refine bA (y:=(f,e.map (λc:X=>(c:Z)),((e.take (d+1)).filter λc=>br (c≠a)&&br (c≠b)).map (λc:X=>(c:Z)),())) ?_ (bv.2 bn);refine ai (y:=(br (e[d]≠a)&&br (e[d]≠b),f,e.map (λc:X=>(c:Z)),((e.take d).filter λc=>br (c≠a)&&br (c≠b)).map (λc:X=>(c:Z)),())) ?_ ?_
  ·rw[iE (by rw[dh];exact i),lR,fQ];by_cases p:e[d]=a
   ·rw[aH (aa:(e[d]:Z)=(a:Z)),a2 (by rfl)];simp[p]
   rw[aD (aa:¬(e[d]:Z)=(a:Z)),a7 (by rfl),iE (by rw[dh];exact i),lR,fQ];by_cases q:e[d]=b
   ·rw[aH (aa:(e[d]:Z)=(b:Z))];simp[q]
   rw[aD (aa:¬(e[d]:Z)=(b:Z))];simp[p,q]
  dsimp only;rw[nh i,List.filter_append];cases s:(br (e[d]≠a)&&br (e[d]≠b)) with
  |true=>
   have al:([e[d]]:ak9).filter (λc=>br (c≠a)&&br (c≠b))=[e[d]]:=mU.2 λc k=>(by rw[gq.1 k];exact s);rw[bF,iE (by rw[dh];exact i),lR,e3 (by rw[dh,nU];omega),aI,al,jC];rfl
  |false=>
   have al:([e[d]]:ak9).filter (λc=>br (c≠a)&&br (c≠b))=[]:=CA.2 λc k=>(by rw[gq.1 k];exactλr=>by rw[s] at r;cases r);rw[bP,al,pq]
 rintro _ rfl;dsimp only;rw[bb,b9,a2 (aD (aa:¬((e.length:Z)<(e.length:Z)))),cy];exact bv.2 bn
theorem Se (c:X->X->Rat) (b:ak9):kL (b.map λa=>((0:Rat),c a))=0/\k6 (b.map λa=>((0:Rat),c a))=0:=by
 induction b with
 |nil=>exact⟨bn,bn⟩
 |cons a b d=>
  simp_all [ar,gL,us,uh]
theorem Lh (a:Z):eP (a,1)=(a:Rat):=by show(a:Rat)/((1:Z):Rat)=_;grind
theorem afx {a:X->X->Z} {n B:X} (f2:n<=64) (c1:1<=B) (a4:∀d f,d<n->f<n->aF (a d f).natAbs<=B) (d7:∀d f,d<n->f<n->a d f=a f d) (V:jT B (n-1)<=3000000):ae (EA (fV n n (λd f=>aN (a d f)),())) λL=>∃u,mQ (λd f=>(a d f:Rat)) (bI n) u/\k6 u+kL u<=n/\L=((k6 u:Z),((n-k6 u-kL u:X):Z),(kL u:Z),()):=by
 have c2:B<=3000000:=cx (CZ B _) V;unfold EA;refine bA (afw aa λd f o s=>cx (a4 d f o s) c2) ?_;dsimp only;refine bG (P:=λL=>L=(fV n n (λd f=>gm (a d f,1)),(bI n).map (λg:X=>(g:Z)),())) ?_ ?_
 ·refine bR n (λd M=>M=((d:Z),fV n n (λd f=>gm (a d f,1)),(bI d).map (λg:X=>(g:Z)),())) rfl ?_ ?_
  ·rintro d _ o rfl;dsimp only;rw[bb,pd,a7 (aH (aa:(d:Z)<(n:Z))),bg aa,e3 (by grind),bN];grind [alG,bv]
  rintro _ rfl;dsimp only;rw[bb,pd,a2 (aD (aa:¬((n:Z)<(n:Z))))];grind [bv]
 rintro _ rfl;dsimp only;refine bG (P:=λL=>∃(z pos:X) (i:ak9) (h:X->X->Z×Z),L=((z:Z),(pos:Z),i.map (λg:X=>(g:Z)),())/\Mz (λd f=>(a d f:Rat)) n B h i z pos/\∀d∈i,∀f∈i,eP (h d f)=0) ?_ ?_
 ·refine alv (λM=>∃(z pos:X) (i:ak9) (h:X->X->Z×Z),M=((z:Z),(pos:Z),fV n n (λd f=>gm (h d f)),i.map (λg:X=>(g:Z)),())/\Mz (λd f=>(a d f:Rat)) n B h i z pos) (λM=>M.2.2.2.1.length) ⟨0,0,bI n,λd f=>(a d f,1),bn,?_⟩ ?_
  ·refine⟨nV,λI R=>fN.1 R,λd o f s=>?_,λg m w D=>⟨(by decide:(0:Z)<1),cO (a4 g m w D) (CZ B _),cO (show aF (1:Z).natAbs<=B from cO ab c1) (CZ B _)⟩,by grind,λan k=>⟨an,?_,aa,aa⟩⟩
   ·rw[Lh,Lh,d7 d f (fN.1 o) (fN.1 s)]
   grind [Lh]
  rintro _ ⟨z,pos,i,h,rfl,k⟩;dsimp only;by_cases ap:i=[]
  ·subst ap;rw[a2 (aD (show¬(ao (([]:ak9).map (λg:X=>(g:Z)))>0) by grind))];grind [bv]
  have f0:0<i.length:=sV.2 ap;have d0:=k.c;have ds:jT B (n-i.length)<=3000000:=cO (xq aa) V;have ft:B<=jT B (n-i.length):=CZ B _;have ci:∀d f,d<n->f<n->aF (h d f).1.natAbs<=3000000:=λd f o s=>cO (k.b d f o s).2.1 ds;rw[a7 (aH (show ao (i.map (λg:X=>(g:Z)))>0 by grind))];refine bG (afI (T:=h) (l:=i) aa k.lt k.nd aa ci) ?_;rintro⟨cs,d9,_⟩ d5;have d6:(cs=-1/\∀d∈i,∀f∈i,eP (h d f)=0)\/∃e j:X,cs=(e:Z)/\d9=(j:Z)/\e∈i/\j∈i/\(h e j).1≠0/\(e≠j->(h e e).1=0/\(h j j).1=0):=by
   rcases d5 with⟨I,R,al,x,G⟩|⟨d,o,f,s,fT,al,x,G,d1⟩|⟨al,x,d1,f1⟩
   ·grind
   ·grind
   refine .inl ⟨al,λd o f s=>?_⟩;have f8:∀g m,g∈i->m∈i->(h g m).1=0->eP (h g m)=0:=λg m w D F=>(yW (k.b g m (k.lt g w) (k.lt m D)).1).2.2.2 F;obtain⟨ek,f4,rfl⟩:=g8.1 o;obtain⟨em,f5,rfl⟩:=g8.1 s;rcases sY ek em with I|I|I
   ·rw[k.LW _ o _ s];grind
   ·grind
   grind
  rcases d6 with⟨rfl,co⟩|⟨e,j,rfl,rfl,A,K,G,d3⟩
  ·dsimp only;rw[a7 (by rfl)];grind [bv]
  dsimp only;have v:=k.lt e A;have H:=k.lt j K;rw[a2 (aD (aa:¬(e:Z)<0))];refine bA (afs aa) ?_;rw[<-ahB];dsimp only;generalize O:eR j (eR e i)=r;have Q:∀g∈r,g<n/\g≠e/\g≠j/\g∈i:=λg w=>(by rw[<-O] at w;obtain⟨av,a0⟩:=m9.1 w;obtain⟨a3,cv⟩:=m9.1 av;exact⟨k.lt g a3,cv,a0,a3⟩);have ce:r.Nodup:=O▸wk (wk k.nd);have dl:r.length+(if e=j then 1 else 2)=i.length:=by
   rw[<-O];by_cases t:e=j
   ·subst t;rw[au bn,Hd (λd4=>(m9.1 d4).2 bn)];exact uI k.nd A
   rw[ar t];have av:=uI k.nd A;have a0:=uI (p:=j) (wk (p:=e) k.nd) (m9.2 ⟨K,λF=>t F.symm⟩);omega
  refine bA (y:=(((z+(if e=j then if(h e j).1<0 then 1 else 0 else 1):X):Z),((pos+(if e=j then if(h e j).1<0 then 0 else 1 else 1):X):Z),fV n n (λg m=>gm (h g m)),r.map (λg:X=>(g:Z)),())) ?_ ?_
  ·by_cases t:e=j
   ·subst t;rw[g2,aH bn,a7 bn,au bn,au bn];refine ai (ux v) (ai (uy v v) (ai (y:=aN (h e e).1) ?_ ?_))
    ·unfold fV;rw[hb (gV v),hb (gV v)];rfl
    refine ai (kP (ci e e v v)) ?_;dsimp only;by_cases N:(h e e).1<0
    ·rw[au N,au N,aH (show fB (h e e).1<0 by simp_all [ar,au,fB]),a7 bn,bg aa]
     try rfl
    rw[ar N,ar N,aD (show¬fB (h e e).1<0 by simp_all [ar,fB]),a2 bn,bg aa]
    try rfl
   rw[g2,aD (aa:¬(e:Z)=(j:Z)),a2 bn,ar t,ar t,bg aa,bg aa]
  dsimp only;refine bA (ux v) (bA (uy v H) (bA (y2 v H) ?_));have dg:r≠[]->4*jT B (n-i.length)+1<=jT B (n-r.length)/\(e≠j->7*jT B (n-i.length)+2<=jT B (n-r.length))/\jT B (n-r.length)<=3000000:=λG=>by
   have fs:0<r.length:=sV.2 G;have F:=Ns B (n-i.length);refine⟨?_,λt=>?_,cO (xq aa) V⟩
   ·have:jT B (n-i.length+1)<=jT B (n-r.length):=xq (by grind);omega
   rw[ar t] at dl;have x:=Ns B (n-i.length+1);grind
  refine bG (ahi (T:=h) (S:=r) (l:=i) (p:=e) (q:=j) (B:=jT B (n-i.length)) (C:=jT B (n-r.length)) aa Q ce v H A K k.LW k.b G dg) ?_;rintro _ ⟨fn,rfl,E,rfl,d2,d8⟩;dsimp only;refine bv.2 ⟨⟨_,_,r,E,bn,?_⟩,?_⟩
  rotate_left
  ·grind
  have ad:∀g∈r,∀m∈r,ns (jT B (n-r.length)) (E g m)/\eP (E g m)=q3 h e j g m:=λg w m D=>d2 g m (Xk.2 ⟨w,D⟩);refine⟨ce,λI R=>(Q I R).1,λd o f s=>?_,λg m w D=>?_,?_,λan bl=>?_⟩
  ·rw[(ad d o f s).2,(ad f s d o).2];exact Q4 k.LW A K (Q d o).2.2.2 (Q f s).2.2.2
  ·by_cases t:qO r r.length 0 g m
   ·grind
   rw[d8 g m t];exact(k.b g m w D).mono (xq aa)
  ·grind
  have am:=yW (k.b e j v H).1;have U:eP (h e j)≠0:=λF=>G (am.2.2.1 F);by_cases t:e=j
  ·subst t;have bx:eR e i=r:=(by grind [Hd,m9]);obtain⟨u,al,x,J⟩:=k.el _ (mQ.one (b:=λd f=>eP (E d f)) A U (λd o f s=>by
    rw[bx] at o s;show eP (E d f)=eP (h d f)-1/eP (h e e)*(eP (h d e)*eP (h e f));rw[(ad d o f s).2];unfold q3;grind) (by rw[bx];exact bl))
   have f6:(0<1/eP (h e e))↔0<(h e e).1:=(PQ U).1.trans am.2.1;have f7:(1/eP (h e e)<0)↔(h e e).1<0:=(PQ U).2.trans am.1;refine⟨u,al,?_,?_⟩
   ·rw[x,us,au bn];grind
   rw[J,uh,au bn];grind
  obtain⟨ex,fl⟩:=d3 t;have en:eP (h e e)=0:=(yW (k.b e e v v).1).2.2.2 ex;have eq:eP (h j j)=0:=(yW (k.b j j H H).1).2.2.2 fl;obtain⟨u,al,x,J⟩:=k.el _ (mQ.two (b:=λd f=>eP (E d f)) A K t U en eq (λd o f s=>by
   simp_all [ar,q3,eP]) (by rw[O];exact bl))
  have fz:2*eP (h e j)≠0:=(by grind);have f3:1/(2*eP (h e j))*(2*eP (h e j))=1:=(by grind);refine⟨u,al,?_,?_⟩
  ·rw[x,us,us,ar t];grind
  rw[J,uh,uh,ar t];grind
 rintro _ ⟨z,pos,i,h,rfl,k,co⟩;dsimp only;obtain⟨u,al,x,J⟩:=k.el _ (mQ.done λd o f s=>co d o f s);have d0:=k.c;have fp:kL u=pos:=x.trans (by rw[(Se _ i).1,ara]);have fr:k6 u=z:=J.trans (by rw[(Se _ i).2,ara]);grind [bb,b9,bv]
theorem afY (e:gz (c*2^a)):To (Y c) (a:Z)=Y (c*2^a):=by
 show(if c=0 then Y 0 else hh (cD c) (cW c+(a:Z)))=Y (c*2^a);by_cases b:c=0
 ·rw[au b,b,nm]
 rw[ar b];have d:(cW c+(a:Z)+65536).toNat=cR c.natAbs+a:=(by grind [cW]);rw[BB (v:=c*2^a) (by grind [cW]) (by rw[d,p3,<-jb,pY])];simp_all [au,n9]
theorem afv (m:a=65536) (e:gz c) (l:c=j*2^a):Et (aA (Y c),())=Y (aN j,bp,()):=by
 unfold Et;refine ai (q8 (d:=Y c) (λq p=>by grind)) ?_;rw[hf];have i:=kO e;have k:=kN e;dsimp only;rw[bP];refine ai (GG aa aa aa) ?_;have n:(2:Z)^a≠0:=(by grind);have g:rj (cD c) (eF c)=j:=by
  by_cases f:j=0
  ·have b:c=0:=(by grind);rw[b,f];rfl
  have b:c≠0:=(by grind);have o:cR c.natAbs=cR j.natAbs+a:=(by grind [i7,G4]);have al:eF c=((cR j.natAbs:X):Z):=(by unfold eF cW;rw[ar b];omega);rw[al,pg];have h:cD c*2^cR j.natAbs*2^a=j*2^a:=(by grind [anO,p3,pY]);grind [Int.mul_eq_mul_right_iff]
 rw[g]
theorem aeQ {E m n:X} (D:a=65536) (M:E<=a) (R:m<=1000) (S:n<=1000) {v:X->X->Z} (z:∀b c,b<m->c<n->fW (a-E) (v b c)/\gz (v b c*2^E)):∃d:X,d<=E/\(∀b c,b<m->c<n->fW (a-d) (v b c))/\AE (fV m n (λb c=>aA (Y (v b c))),())=Y (fV m n (λb c=>aN (v b c/2^(a-d))),()):=by
 have A:∀b c (d:X),b<m->c<n->d<=E->gz (v b c*2^d):=λb c d e g l=>(by refine cO (jU ?_) (z b c e g).2;simp_all [xd,BQ,i7]);have q:∀b c,b<m->c<n->c4 (Y (v b c)):=λb c e g V U=>(by have:=A b c 0 e g (eJ _);grind);suffices G:ae (AE (fV m n (λb c=>aA (Y (v b c))),())) λi=>∃d:X,d<=E/\(∀b c,b<m->c<n->fW (a-d) (v b c))/\i=(fV m n (λb c=>aN (v b c/2^(a-d))),()) by obtain⟨i,B,d,p,C,rfl⟩:=G;exact⟨d,p,C,B⟩
 unfold AE;dsimp only;refine bG (P:=λi=>∃d:X,d<=E/\i=(-(d:Z),())/\∀b c,b<m->c<n->v b c≠0->-(d:Z)<=cW (v b c)) ?_ ?_
 ·refine bR m (λb j=>∃d:X,d<=E/\j=(-(d:Z),(b:Z),())/\∀h f,h<b->f<n->v h f≠0->-(d:Z)<=cW (v h f)) ⟨0,eJ _,bn,λh f k=>absurd k (oL _)⟩ ?_ ?_
  ·rintro b _ e ⟨d,l,rfl,s⟩;dsimp only;rw[bb,pd,a7 (aH (aa:(b:Z)<(m:Z))),bg aa];refine bG (P:=λi=>∃d:X,d<=E/\i=(-(d:Z),())/\∀h f,h<b+1->f<n->v h f≠0->-(d:Z)<=cW (v h f)) ?_ ?_
   ·refine bR n (λc j=>∃d:X,d<=E/\j=(-(d:Z),(c:Z),())/\(∀h f,h<b->f<n->v h f≠0->-(d:Z)<=cW (v h f))/\∀f,f<c->v b f≠0->-(d:Z)<=cW (v b f)) ⟨d,l,bn,s,λf k=>absurd k (oL _)⟩ ?_ ?_
    ·rintro c _ g ⟨o,u,rfl,x,J⟩;obtain⟨F,T⟩:=z b c e g;dsimp only;refine bA (ou e) ?_;rw[bb,cI,a7 (aH (aa:(c:Z)<(n:Z))),bg aa];by_cases r:v b c=0
     ·refine bA (y:=(-(o:Z),())) ?_ (bv.2 ⟨o,u,bn,x,λf w k=>?_⟩)
      ·refine ai (ou e) (ai (gJ (gV g)) (ai (Lq (q b c e g)) ?_));dsimp only;rw[r,a2 (by rfl)]
      grind
     have Q:=fW.ex r F;refine bA (y:=(-((max o (-(cW (v b c))).toNat:X):Z),())) ?_ (bv.2 ⟨max o (-(cW (v b c))).toNat,aa,bn,λh f N w k=>by grind,λf w k=>?_⟩)
     ·refine ai (ou e) (ai (gJ (gV g)) (ai (Lq (q b c e g)) ?_));have K:hZ (Y (v b c))≠0:=by
       show fB (v b c)≠0;unfold fB;omega
      dsimp only;rw[fQ,aD K,a7 (by rfl)];refine ai (ou e) (ai (gJ (gV g)) (ai (q8 (q b c e g)) ?_));rw[hf];dsimp only;have O:eF (v b c)=cW (v b c):=(by simp_all [b8,eF]);grind
     grind
    rintro _ ⟨o,u,rfl,x,J⟩;dsimp only;refine bA (ou e) ?_;rw[bb,cI,a2 (aD (aa:¬((n:Z)<(n:Z))))];grind [bv]
   grind [bv]
  rintro _ ⟨d,l,rfl,s⟩;dsimp only;rw[bb,pd,a2 (aD (aa:¬((m:Z)<(m:Z))))];grind [bv]
 rintro _ ⟨d,l,rfl,s⟩;have H:ay (0- -(d:Z))=(d:Z):=(by grind [cG]);have t:∀b c,b<m->c<n->fW (a-d) (v b c):=λb c e g=>(by grind [fW.G2,fW.zero,cW]);have L:∀b c,b<m->c<n->v b c*2^d=v b c/2^(a-d)*2^a:=λb c e g=>(by obtain⟨ad,r⟩:=t b c e g;have I:(2:Z)^(a-d)≠0:=(by have:(0:Z)<2^(a-d):=aoy ab;omega);rw[r,Int.mul_ediv_cancel _ I,anO,<-p3,(aa:a-d+d=a)]);dsimp only;refine bG (P:=λi=>i=(fV m n (λb c=>aN (v b c/2^(a-d))),())) ?_ (by rintro _ rfl;exact bv.2 ⟨d,l,t,bn⟩);refine bR m (λb j=>j=((b:Z),fV b n (λb c=>aN (v b c/2^(a-d))),())) rfl ?_ ?_
 ·rintro b _ e rfl;dsimp only;rw[bb,pd,a7 (aH (aa:(b:Z)<(m:Z))),bg aa];refine bG (P:=λi=>i=(fV b n (λb c=>aN (v b c/2^(a-d))),az n (λc=>aN (v b c/2^(a-d))),())) ?_ ?_
  ·refine bR n (λc j=>j=((c:Z),fV b n (λb c=>aN (v b c/2^(a-d))),az c (λc=>aN (v b c/2^(a-d))),())) rfl ?_ ?_
   ·rintro c _ g rfl;dsimp only;refine bA (ou e) ?_;rw[bb,cI,a7 (aH (aa:(c:Z)<(n:Z))),bg aa,H];have p:=A b c d e g l;refine bA (ou e) (bA (gJ (gV g)) (bA (afN (q b c e g) aa aa) ?_));rw[afY p];refine bA (afv D p (L b c e g)) ?_;grind [o3,bv,e3,cI]
   rintro _ rfl;dsimp only;refine bA (ou e) ?_;rw[bb,cI,a2 (aD (aa:¬((n:Z)<(n:Z))))];grind [bv]
  rintro _ rfl;grind [o3,bv,e3,pd,fV]
 rintro _ rfl;dsimp only;rw[bb,pd,a2 (aD (aa:¬((m:Z)<(m:Z))))];grind [bv]
section
def cC (a:eA):Rat:=((a.getD 0:Z):Rat)
def mI (a:X×X->Rat):alb->Rat
 |[]=>0
 |x::b=>a x+mI a b
theorem Tl {b c:X×X->Rat}:∀{a:alb},(∀x∈a,b x=c x)->mI b a=mI c a
 |[],_=>rfl
 |x::a,d=>by rw[mI,mI,d x ac,Tl λe f=>d e (by grind)]
theorem Tn {b:X×X->Rat}:∀{a:alb},(∀x∈a,b x=0)->mI b a=0
 |[],_=>rfl
 |x::a,c=>by rw[mI,c x ac,Tn λd e=>c d (by grind)];grind
theorem Tm {c d:X×X->Rat} {b:X×X} {g:Rat}:∀{a:alb},a.Nodup->b∈a->(∀y,y≠b->c y=d y)->c b=d b+g->mI c a=mI d a+g
 |[],_,i,_,_=>by grind
 |y::a,f,i,e,j=>by
  rw[j4] at f;rw[mI,mI];by_cases h:y=b
  ·grind [Tl]
  rw[e y h,Tm f.2 (by grind) e j];grind
theorem QC {n:X} (c:a<n):b∈sv n a↔a<=b+1/\b<n/\b<=a+1:=by grind [sv]
theorem Kk {n:X} {b:X×X}:b∈nK n a↔b.1<a/\b.2∈sv n b.1:=by unfold nK;grind
theorem Sj (n:X):∀m,(nK n m).Nodup
 |0=>List.nodup_nil
 |m+1=>by rw[Si];have b:(sv n m).Nodup:=(by grind [List.nodup_range',sv]);refine iI.2 ⟨Sj n m,nW.2 (b.imp λa g=>a (by grind)),?_⟩;intro i f j c d;obtain⟨h,e,rfl⟩:=eS.1 c;simp_all [amS,Kk,absurd]
theorem B5 {g:alb} (i:g.Nodup) {E:X->X->eA} (j:(a,b)∈g) (n:E a b=Y 0) (d:eA) (e f:X->Rat):mI (λc=>e c.1*cC (iv E a b d c.1 c.2)*f c.2) g=mI (λc=>e c.1*cC (E c.1 c.2)*f c.2) g+e a*cC d*f b:=by
 refine Tm i j (λc k=>?_) ?_
 ·show e c.1*cC (iv E a b d c.1 c.2)*f c.2=e c.1*cC (E c.1 c.2)*f c.2;have:iv E a b d c.1 c.2=E c.1 c.2:=ar λh=>k (Prod.ext h.1 h.2);grind
 show e a*cC (iv E a b d a b)*f b=e a*cC (E a b)*f b+e a*cC d*f b;have l:iv E a b d a b=d:=au ⟨bn,bn⟩;have m:cC (Y 0)=0:=rfl;grind
def ga (e:Z->Rat) (b c:X->Rat):bm aK->X->Rat
 |[],_=>0
 |q::ps,a=>(if q.a1.length=2 then e (q.d.getD 0 0)*(b a*c a)+e (q.d.getD 1 0)*(b (a+1)*c a+b a*c (a+1))+e (q.d.getD 2 0)*(b (a+1)*c (a+1)) else e (q.d.getD 0 0)*(b a*c a))+ga e b c ps (a+q.a1.length)
theorem H0 (b:Z->Rat) (c d:X->Rat) (e:aK):∀(ps:bm aK) (a:X),ga b c d (ps++[e]) a=ga b c d ps a+ga b c d [e] (a+(ps.flatMap aK.a1).length)
 |[],a=>by show ga b c d [e] a=0+ga b c d [e] (a+0);grind
 |p::ps,a=>by show _+ga b c d (ps++[e]) (a+p.a1.length)=(_+ga b c d ps (a+p.a1.length))+_;rw[H0 b c d e ps,nS,hI,qx];grind
theorem H1 (a:Z->Rat) (c d:X->Rat):∀(ps:bm aK) (b:X),ga a c d ps b=ga a d c ps b
 |[],_=>rfl
 |q::ps,b=>by rw[ga,ga,H1 a c d ps];grind
theorem Np (b:Z->Rat) (a:Rat) (e f d:X->Rat):∀(ps:bm aK) (c:X),ga b (λg=>a*e g+f g) d ps c=a*ga b e d ps c+ga b f d ps c
 |[],_=>by show(0:Rat)=a*0+0;grind
 |q::ps,c=>by rw[ga,ga,ga,Np b a e f d ps];grind
theorem Nq (a:Z->Rat) (c:X->Rat):∀(ps:bm aK) (b:X),ga a (λ_=>0) c ps b=0
 |[],_=>rfl
 |q::ps,b=>by rw[ga,Nq a c ps];grind
def HZ (a:Z->Rat) (d:X->Rat) (c:X->X->Rat) (e:X->Rat) (ps:bm aK) (b:X):∀f:ak9,ga a (λg=>db (λi=>d i*c i g) f) e ps b=db (λi=>d i*ga a (c i) e ps b) f
 |[]=>Nq a e ps b
 |i::f=>by show ga a (λg=>d i*c i g+db (λi=>d i*c i g) f) e ps b=d i*ga a (c i) e ps b+db (λi=>d i*ga a (c i) e ps b) f;rw[Np,HZ a d c e ps b f]
theorem Nr (c:Z->Rat) (b a:Rat) (f g:X->Rat):∀(ps:bm aK) (d:X),ga (λh=>b*c h) (λe=>a*f e) (λe=>a*g e) ps d=b*(a*a)*ga c f g ps d
 |[],_=>by show(0:Rat)=b*(a*a)*0;grind
 |q::ps,d=>by rw[ga,ga,Nr c b a f g ps];grind
theorem aeH {c:Z->Rat} {C:X->X->Rat} {ps:bm aK} (h:∀a∈e,∀g∈e,d a g=ga c (C a) (C g) ps 0) (b:X->Rat):l6 d e b=ga c (λf=>db (λa=>b a*C a f) e) (λf=>db (λa=>b a*C a f) e) ps 0:=by unfold l6;rw[HZ c b C _ ps 0 e];refine ov λa i=>?_;congr 1;rw[H1,HZ c b C _ ps 0 e];grind [Rat.mul_comm,H1,ov]
theorem J6 (a b:X->Rat):∀n,lf a b n=db (λc=>b c*a c) (bI n)
 |0=>rfl
 |n+1=>by rw[lf,J6 a b n,jq,afW];grind [db]
theorem Sq (c:Z->Rat) (b:X->Rat):∀(ps:bm aK) (a:X),(∀q∈ps,(q.a1.length=1/\∃e,q.d=[e])\/(q.a1.length=2/\∃e f g,q.d=[e,f,g]))->wA b (ps.map λq=>q.a1.length) (ps.flatMap λq=>q.d.map c) a=ga c b b ps a
 |[],_,_=>rfl
 |q::ps,a,j=>by
  have k:=λa=>Sq c b ps a λq l=>j q (gx _ l);rw[gL,nS,ga];rcases j q (jd ..) with⟨h,e,i⟩|⟨h,e,f,g,i⟩
  ·rw[h,i,ar ab,<-k];show c e*(b a*b a)+_=c e*(b a*b a)+_;rfl
  rw[h,i,au bn,<-k];show(c e*(b a*b a)+2*c f*(b a*b (a+1))+c g*(b (a+1)*b (a+1)))+_=(c e*(b a*b a)+c f*(b (a+1)*b a+b a*b (a+1))+c g*(b (a+1)*b (a+1)))+_;congr 1;grind
def zI (b:Z->Rat) (f:aK):Prop:=
 (f.a1.length=1/\∃a,f.d=[a])\/(f.a1.length=2/\∃a c e,f.d=[a,c,e]/\(b a*b e-b c*b c<0↔hZ (hU [a,c,e])<0)/\b a*b e-b c*b c≠0/\(¬hZ (hU [a,c,e])<0->hZ (aP a)≠0))
theorem zI.two {g:Z->Rat} {a:aK} (f:zI g a):(a.a1.length=1/\∃c,a.d=[c])\/(a.a1.length=2/\∃c b e,a.d=[c,b,e]):=by
 rcases f with f|⟨h,c,b,e,i,_⟩
 ·grind
 grind
def Mq {g:Z->Rat} {n:X}:∀(ps:bm aK) (a:X),(∀q∈ps,zI g q)->a+(ps.flatMap aK.a1).length=n->sP n (ps.map λq=>q.a1.length) (ps.flatMap λq=>q.d.map g) a
 |[],a,_,b=>by obtain rfl:a=n:=b;exact .nil
 |q::ps,a,h,b=>by
  rw[nS,hI] at b;have c:=Mq (g:=g) (n:=n) ps (a+q.a1.length) (λq b=>h q (gx _ b)) aa;rw[gL,nS];rcases h q (jd ..) with⟨e,i,f⟩|⟨e,i,k,l,f,_,j,_⟩
  ·rw[e] at c|-;rw[f];exact .one c
  rw[e] at c|-;rw[f];exact .two j c
theorem Tu {g:Z->Rat} (i:∀c,(0<g c↔0<hZ (aP c))/\(g c<0↔hZ (aP c)<0)):∀(ps:bm aK),(∀q∈ps,zI g q)->((mJ (ps.map λq=>q.a1.length) (ps.flatMap λq=>q.d.map g)).1:Z)=(fI ps).2.2/\((mJ (ps.map λq=>q.a1.length) (ps.flatMap λq=>q.d.map g)).2:Z)=(fI ps).1/\(fI ps).1+(fI ps).2.1+(fI ps).2.2=((ps.flatMap aK.a1).length:Z)
 |[],_=>⟨bn,bn,bn⟩
 |q::ps,j=>by
  obtain⟨i1,u,v⟩:=Tu i ps λq p=>j q (amI _ p);have k:fI (q::ps)=((kk q).1+(fI ps).1,(kk q).2.1+(fI ps).2.1,(kk q).2.2+(fI ps).2.2):=rfl;rw[k,aoJ,arb,arb,alO];dsimp only;rcases j q (amE ..) with⟨f,a,h⟩|⟨f,a,b,e,h,r,s,t⟩
  ·obtain⟨n,o⟩:=i a;rw[f,h];have l:kk q=if hZ (aP a)<0 then(1,0,0) else if hZ (aP a)>0 then(0,0,1) else(0,1,0):=by
    simp_all [ar,absurd,kk]
   have m:mJ (1::ps.map λq=>q.a1.length) ([a].map g++ps.flatMap λq=>q.d.map g)=(let q:=mJ (ps.map λq=>q.a1.length) (ps.flatMap λq=>q.d.map g);if 0<g a then(q.1+1,q.2) else if g a<0 then(q.1,q.2+1) else q):=rfl;grind
  obtain⟨n,o⟩:=i a;rw[f,h];have l:kk q=if hZ (hU [a,b,e])<0 then(1,0,1) else if hZ (aP a)<0 then(2,0,0) else if hZ (aP a)>0 then(0,0,2) else(0,1,0):=by unfold kk;grind
  have m:mJ (2::ps.map λq=>q.a1.length) ([a,b,e].map g++ps.flatMap λq=>q.d.map g)=(let q:=mJ (ps.map λq=>q.a1.length) (ps.flatMap λq=>q.d.map g);if g a*g e-g b*g b<0 then(q.1+1,q.2+1) else if 0<g a then(q.1+2,q.2) else(q.1,q.2+2)):=rfl;grind
section
variable {n:X} {ps:bm aK}
theorem Ms (e:hz n ps):∀m,m<=ps.length->∀a b,(eK ps m<=a\/eK ps m<=b)->mP ps m a b=Y 0
 |0=>λ_ a b _=>rfl
 |m+1=>by
  intro h a b f;have c:m<ps.length:=aa;have g:=vW c;have i:=(e.iu c).1;have j:=Ms e m aa a b aa;rw[mP,bX c];dsimp only;by_cases d:ps[m].a1.length=2
  ·rw[au d];unfold iv;grind
  rw[ar d];unfold iv;grind
theorem Mr (j:hz n ps) (k l:X->Rat):∀m,m<=ps.length->mI (λb=>k b.1*cC (mP ps m b.1 b.2)*l b.2) (nK n n)=ga (λr=>cC (aP r)) k l (ps.take m) 0
 |0,_=>by refine Tn λb _=>?_;show k b.1*cC (Y 0)*l b.2=0;have v:cC (Y 0)=0:=rfl;grind
 |m+1,x=>by
  have c:m<ps.length:=aa;have u:=Mr j k l m aa;have w:=j.Bn c;have y:=(j.iu c).1;have p:=Ms j m aa;have g:∀e f,e<n->f<n->e<=f+1->f<=e+1->(e,f)∈nK n n:=λe f o c s t=>Kk.2 ⟨o,(QC o).2 ⟨s,c,t⟩⟩;have h:=Sj n n;rw[nh c,H0,<-u,mm,show((ps.take m).flatMap aK.a1).length=eK ps m from rfl];have q:mP ps (m+1)=if ps[m].a1.length=2 then iv (iv (iv (iv (mP ps m) (eK ps m) (eK ps m) (aP (ps[m].d.getD 0 0))) (eK ps m+1) (eK ps m) (aP (ps[m].d.getD 1 0))) (eK ps m) (eK ps m+1) (aP (ps[m].d.getD 1 0))) (eK ps m+1) (eK ps m+1) (aP (ps[m].d.getD 2 0))
   else iv (mP ps m) (eK ps m) (eK ps m) (aP (ps[m].d.getD 0 0)):=by
   rw[mP,cE c]
  rw[q,ga,ga];generalize eK ps m=a at*;by_cases i:ps[m].a1.length=2
  ·rw[au i,au i];rw[B5 h (g (a+1) (a+1) aa aa aa aa) (by simp_all [ar,iv]),B5 h (g a (a+1) aa aa aa aa) (by simp_all [ar,iv]),B5 h (g (a+1) a aa aa aa aa) (by simp_all [ar,iv]),B5 h (g a a aa aa aa aa) (p _ _ aa)];grind
  rw[ar i,ar i];rw[B5 h (g a a aa aa aa aa) (p _ _ aa)];grind
end
end
section
section
variable {σ ρ:Type} {f:σ->bu (σ⊕ρ)}
end
def KG:aP 0=Y 0:=by decide
end
abbrev na:Z:=4607182418800017408
def agI:iW 2 2 [0,1,1] [1] [na] where
 hr:=by decide
 hc:=by decide
 hi:=by decide
 hs:=by decide
 hv:=by decide
 hw:=λb a=>by rw[gq.1 a];exact⟨ab,ab⟩
def agJ:gM 2 2 [0,1,1] [1] [na] where
 len:=rfl
 first:=rfl
 mono:=λb e=>by have:b=0\/b=1:=aa;rcases this with rfl|rfl<;>decide
 last:=rfl
 val:=rfl
 rng:=λb a e c d=>by
  have:b=0\/b=1:=aa;rcases this with rfl|rfl
  ·change(0:Z)<=a at c;change(a:Z)<1 at d;have:a=0:=aa;subst this;exact⟨ab,ab⟩
  change(1:Z)<=a at c;change(a:Z)<1 at d;omega
 asc:=λb a e c d=>by
  have:b=0\/b=1:=aa;rcases this with rfl|rfl
  ·change(0:Z)<a at c;change(a:Z)<1 at d;omega
  change(1:Z)<a at c;change(a:Z)<1 at d;omega
def TP:gI 2 2 [0,1,1] [1] [na]=0:=by refine kE.2 ⟨agJ,λa b=>?_⟩;have:a=0:=(by have:([na]:ala).length=1:=rfl;omega);subst this;decide
def LQ:bm cY:=[(1,0,na,())]
def TQ:c0 [0,1,1] [1] [na] 2=LQ:=rfl
def TS:k3 2 (gW LQ) [0,1]=Jc:=by decide
def ze:bm eE:=[(0,(2,([0,1],((-1:Z),()))))]
def GU:iw Jc ze:=by
 refine⟨⟨λa b=>?_,bn⟩,λa b=>?_,λa b=>?_,λh c i l=>?_⟩
 ·have b:a<1:=b;obtain rfl:a=0:=aa;exact⟨_,bn,bn,ab,ab⟩
 ·have j:a<1:=b;obtain rfl:a=0:=aa;refine⟨(by decide:2<=2),λc _ g d=>?_⟩;have g:c<2:=g;have:c=0\/c=1:=aa;rcases this with rfl|rfl
  ·exact⟨λ_=>rfl,λd=>absurd (show 2<=0 from d) ab⟩
  exact⟨λ_=>rfl,λd=>absurd (show 2<=1 from d) ab⟩
 ·have j:a<1:=b;obtain rfl:a=0:=aa;exact .inl ⟨bn,bn⟩
 have k:fA Jc:=(by rw[<-TS];exact Bf _ _ _);obtain⟨e,f⟩:=i.lt k;have e:h<2:=e;have f:c<2:=f;obtain rfl:h=0:=aa;obtain rfl:c=1:=aa;decide
abbrev GS:X->X->eA:=gU LQ [0,1]
def SU:kx (aP na) 0=na:=by rw[v1,E7 (a:=0) ab ab];decide
def SV:kx (aP 0) 0=0:=by rw[KG];rfl
def hl:a9:=hS GS ze (λa=>([]:bm a9).getD a gn) 0
def zf:hl.rows=[0,1]:=by decide
def TO:hl.full=2:=by decide
def LS:hl.ba 0 0=0:=SV
def TT:hl.ba 0 1=na:=SU
def LU:hl.ba 1 0=na:=SU
def LV:hl.ba 1 1=0:=SV
def TR (a:X) (c:a=0\/a=1):hl.fin a:=by
 unfold a9.fin;rw[zf];intro d b;simp only[fF,aoH,aoI] at b;rcases c with rfl|rfl<;>rcases b with rfl|rfl
 ·rw[LS];decide
 ·rw[LU];decide
 ·rw[TT];decide
 rw[LV];decide
def agG:hl.choose=Y [0,1]:=by
 obtain⟨a,l⟩:∃a:X,a=65536:=⟨_,bn⟩;have g:aP na=Y (1*2^a):=(by rw[l];exact v1);have c:(0:Z)<2^a:=lm ab;have d:hl.av 0 0=0:=(by unfold anW;rw[LS,KG];rfl);have j:hl.av 1 1=0:=(by unfold anW;rw[LV,KG];rfl);have i:hl.av 1 0=2^a:=(by unfold anW;rw[LU,g,sZ,am9];exact arc (fw c));have h:hl.av 0 1=2^a:=(by unfold anW;rw[TT,g,sZ,am9];exact arc (fw c));have e:hl.hp 0=(2^a,Y 1):=(by unfold a9.hp;rw[zf];show(hl.av 1 0,Y 1)=_;rw[i]);have k:hl.hp 1=(2^a,Y 0):=(by unfold a9.hp;rw[zf];show(hl.av 0 1,Y 0)=_;rw[h]);unfold a9.choose;have f:hl.rows.take hl.full=[0,1]:=(by rw[zf,TO];rfl);rw[f,anj,ar (ale (TR 0 (.inl bn))),ar (by
  rw[e,d];intro b;rcases b with b|b
  ·dsimp only at b;omega
  dsimp only at b;omega)]
 rw[e];dsimp only;rw[b8 (ale (by rw[f];decide)),b8 (ale (TR 1 (.inr bn))),b8 (by
  rw[d,nm,am8];have:=qi c c;omega),ar (by
  rw[k,j];dsimp only;omega)]
def Xy (b:a9) (a:ak9):(b.elim a).rows=b.rows.filter λc=>br (c∉a):=rfl
def aeB (b:a9) (a:ak9):(b.de a).rows=b.rows.filter λc=>br (c∉a):=rfl
def aeA (c:a9) (a b:X):(c.de [a,b]).d=[c.ba a a,c.ba b a,c.ba b b]:=rfl
def agH:amc 3 hl=Y (hl.elim [0,1],[hl.de [0,1]]):=by
 have a:([0,1]:ak9).filter (λc=>br (c∉[0,1]))=[]:=ab;have e:(hl.elim [0,1]).rows=[]:=(by rw[Xy,zf,a]);rw[wH agG ab,au (by
  intro f _ c b;rw[aeB,zf,a] at b;cases b)]
 have d:(hl.elim [0,1]).choose=Y []:=(by unfold a9.choose;rw[e,List.take_nil,anj]);rw[y3 d];rfl
def LR:iM GS ze 1=Y ([hl.elim [0,1]],[hl.de [0,1]]):=by have b:hS GS ze (λa=>([]:bm a9).getD a gn) 0=hl:=rfl;rw[iM,iM,bN];dsimp only;rw[b,TO,agH,anc,apw,apw]
def O4 {c:X->X->eA} {o:ala} {b:bm eE} {d:bm a9} (f:b.length=a) (e:iM c b a=Y (d,l)):qQ c o b=(pO o l (my d:Z),0,()):=by subst f;unfold qQ;rw[e]
section
def O0 (d:∀c∈g,bh c≠2047) (b:X):bh (g.getD b 0)≠2047:=by
 rcases cU b g.length with a|a
 ·rw[kr a];exact d _ (cL a)
 rw[ky,oH a];show bh 0≠2047;decide
def Ge {D:X} (a:D=65536):jm 1=Y (1*2^D)/\aP na=Y (1*2^D):=⟨FA (n:=1) ab a,by rw[a];exact v1⟩
def aS.e6 {D:X} {l:er} (d:∀c∈l,aS D i b a c):lV l=bp/\fW (D-i) (jI l)/\(jI l).natAbs<=l.length*(a*2^(D+b)):=by
 induction l with
 |nil=>exact⟨bn,fW.zero _,by simp[jI]⟩
 |cons c l j=>
  obtain⟨i1,h,o⟩:=j λc g=>d c (gx _ g);obtain⟨k,rfl,f,n⟩:=d c (jd ..);refine⟨by simp[lV,i1],f.add h,?_⟩;show(k+jI l).natAbs<=(l.length+1)*(a*2^(D+b));generalize a*2^(D+b)=e at*;rw[jD,h3];generalize l.length*e=m at*;omega
theorem T5 {T:X×X->eA} {f:X×X->Rat} {s:Rat}:∀{l:alb},(∀x∈l,cC (T x)*s=f x)->((jI (l.map T):Z):Rat)*s=mI f l
 |[],_=>by show((0:Z):Rat)*s=0;rw[show((0:Z):Rat)=0 from rfl];grind
 |x::l,a=>by have d:=T5 (T:=T) (f:=f) (s:=s) (l:=l) λe c=>a e (gx _ c);have b:=a x (jd ..);show(((T x).getD 0+jI (l.map T):Z):Rat)*s=f x+mI f l;rw[ard,<-d,<-b];unfold cC;grind
def y8 (a:eA):(0<hZ a↔0<a.getD 0)/\(hZ a<0↔a.getD 0<0):=by
 unfold hZ fB;split
 ·omega
 split<;>omega
def Ou {D:X} (d:D=65536) {a b c:Z} (p:bh a≠2047) (i:bh b≠2047) (q:bh c≠2047):∃j f e g:Z,hU [a,b,c]=Y j/\aP a=Y f/\aP b=Y e/\aP c=Y g/\j*2^D=f*g-e*e:=by
 obtain⟨s,f,g,u,al,l,m,n⟩:=(alj d p).mul d (alj d q) ab ab ab;obtain⟨t,e,k,v,h,f2,o,f4⟩:=(alj d i).mul d (alj d i) ab ab ab;obtain rfl:e=k:=gC (h.symm.trans f2);have r:=(alN d ab s t.neg ab).2;refine⟨u-v,f,e,g,?_,al,h,l,?_⟩
 ·show cM (bk (aP a) (aP c)) (c5 (bk (aP b) (aP b)))=_;rw[r,m,o];rfl
 rw[Int.sub_mul,n,f4]
theorem ae3 (c:0<h) (e:n*(h*h)=o*(h*h)):n=o:=by
 have a:=ank c c;have d:(n-o)*(h*h)=0:=(by grind);rcases s2.1 d with b|b
 ·grind
 rw[b] at a;exact absurd a ab
theorem ae4 (a:0<h):h/h=1:=by grind
theorem ae5 (a:Rat):0/a=0:=by grind
theorem Sz (b a:Rat):b/a=1/a*b:=by grind
theorem ae6 (b:0<n) (a:0<h):o=1/n*(1/h*(1/h))*(o*n*(h*h)):=by grind
def Lj (a:X):(0:Rat)<(((2:Z)^a:Z):Rat):=anY.2 (lm ab)
section
variable {n D:X} {ps:bm aK} {F:fy}
def CE (b:D=65536) (c:hQ n ps F) {i:X} (k:a<n):aS D 1074 1024 1 (fG ps i a):=by
 unfold fG;by_cases d:i=a
 ·rw[au d,(Ge b).1,<-(Ge b).2];exact alj b ab
 rw[b8 d];obtain⟨m,o,e,l,rfl⟩:=c.ok.eI k;obtain⟨f,h,g⟩:=c.ok.xF e l;rw[g];dsimp only;split
 ·rename_i j;exact alj b ((c.ok.de _ (cL e)).fin f h _ j)
 exact amd
def U3 (b:D=65536) (a:X):fG ps a a=Y (1*2^D):=by unfold fG;rw[au bn];exact(Ge b).1
def U4 (c:hQ n ps F) (m:a<b) (h:b<n):fG ps a b=Y 0:=by unfold fG;rw[b8 aa];obtain⟨k,o,d,i,rfl⟩:=c.ok.eI h;obtain⟨j,l,e⟩:=c.ok.xF d i;rw[e];dsimp only;rw[b8];intro g;have f:=(c.ok.after d g).1;rw[c.ok.idx (aa:a<n)] at f;omega
def Cj {E:X->X->eA} {e:eA} (f:∀c d,aS D 1074 1024 1 (E c d)) (g:aS D 1074 1024 1 e):∀c d,aS D 1074 1024 1 (iv E a b e c d):=λc d=>by
 unfold iv;split
 ·exact g
 exact f c d
def Cv (c:D=65536) (b:hQ n ps F):∀m f g,aS D 1074 1024 1 (mP ps m f g)
 |0=>λf g=>amd
 |m+1=>by
  rw[mP];by_cases i:m<ps.length
  ·rw[bX i];dsimp only;have j:=(b.ok.k _ (b6 i)).A0;have a:∀e,aS D 1074 1024 1 (aP (ps[m].d.getD e 0)):=λe=>alj c (O0 j e);by_cases h:ps[m].a1.length=2
   ·rw[au h];exact Cj (Cj (Cj (Cj (Cv c b m) (a 0)) (a 1)) (a 1)) (a 2)
   rw[ar h];exact Cj (Cv c b m) (a 0)
  rw[oH aa];exact Cv c b m
theorem Ld (d:D=65536) (s:h=(((2:Z)^D:Z):Rat)) (g:hQ n ps F) (S:n<=5) (Q:a<n) (R:b<n):∃f:Z,nL ps n a b=Y f/\fW (D-3222) f/\f.natAbs<=15*2^(D+3072)/\(f:Rat)*(h*h)=ga (λC=>cC (aP C)) (λk=>cC (fG ps a k)) (λm=>cC (fG ps b m)) ps 0:=by
 have t:∀c∈nK n n,aS D 3222 3072 1 (BU ps n a b c)/\cC (BU ps n a b c)*(h*h)=cC (fG ps a c.1)*cC (mP ps ps.length c.1 c.2)*cC (fG ps b c.2):=λc e=>(by obtain⟨u,j⟩:=Kk.1 e;have j:=((QC u).1 j).2.1;obtain⟨J,p,q,o,al,z,A,B⟩:=(CE d g (i:=a) u).mul d (Cv d g ps.length c.1 c.2) ab ab ab;obtain⟨K,y,r,x,E,f2,G,f4⟩:=J.mul d (CE d g (i:=b) j) ab ab ab;refine⟨K,?_⟩;obtain rfl:o=y:=gC (A.symm.trans E);have L:(o:Rat)*h=(p:Rat)*(q:Rat):=(by rw[s,<-oP,<-oP,B]);have M:(x:Rat)*h=(o:Rat)*(r:Rat):=(by rw[s,<-oP,<-oP,f4]);show cC (bk (bk (fG ps a c.1) (mP ps ps.length c.1 c.2)) (fG ps b c.2))*(h*h)=_;rw[G,al,z,f2];show(x:Rat)*(h*h)=(p:Rat)*(q:Rat)*(r:Rat);rw[<-L,<-are,M];grind);have I:(nK n n).length<=15:=cO (Sh n n) aa;obtain⟨N,O,v⟩:=aS.e6 (l:=(nK n n).map (BU ps n a b)) λP H=>(by obtain⟨c,e,rfl⟩:=eS.1 H;exact(t c e).1);rw[dh] at v;have w:(jI ((nK n n).map (BU ps n a b))).natAbs<=15*2^(D+3072):=cO v (by rw[h3];exact gj _ I);refine⟨_,?_,O,w,?_⟩
 ·unfold nL sF;rw[au N];unfold n9;rw[au (amH d ab ab w)]
 rw[T5 λc e=>(t c e).2];exact(Mr g.ok (λk=>cC (fG ps a k)) (λm=>cC (fG ps b m)) ps.length (bc _)).trans (by rw[h2])
theorem hQ.aez (N:D=65536) (A:hQ n ps F) (R:0<c):∀I∈ps,zI (λM=>eP ((aP M).getD 0,c)) I:=by
 intro I E;obtain⟨ad,Q,rfl⟩:=g8.1 E;obtain⟨e,h,am⟩:=A.ok.iu Q;have B:=A.ok.k _ E;rcases e with e|e
 ·rw[e] at h;obtain⟨i,P⟩:=qr.1 h;exact .inl ⟨e,i,P⟩
 rw[e] at h;obtain⟨i,t,u,z⟩:=L2 h;have m:=B.A0;obtain⟨an,ap,G,H⟩:=B.two e (by rw[e];exact h);rw[z] at G H m;obtain⟨f,j,g,l,v,w,x,y,K⟩:=Ou N (m i ac) (m t ac) (m u ac);have C:(0:Rat)<(c:Rat):=anY.2 R;have p:=Lj D;generalize O:(((2:Z)^D:Z):Rat)=o at*;have L:(f:Rat)*o=(j:Rat)*(l:Rat)-(g:Rat)*(g:Rat):=(by rw[<-O,<-apP,<-apP,<-apP,<-aq8,K]);have r:(eP (j,c)*eP (l,c)-eP (g,c)*eP (g,c))*((c:Rat)*(c:Rat))=(f:Rat)*o:=(by rw[L];unfold eP;dsimp only;have:=wB (aa:c≠0);grind);have S:f≠0:=λd=>G (by rw[v,d];rfl);have T:=wB S;have q:(f:Rat)*o≠0:=by
  intro d;rcases s2.1 d with d|d
  ·exact T d
  rw[d] at p;exact absurd p ab
 have U:=(y9 r q).1 (ank C C);have V:=(y9 (s:=(f:Rat)) rfl q).1 p;have J:(f:Rat)<0↔f<0:=(by have:=aq9 (a:=f) (b:=0);simpa using this);refine .inr ⟨e,i,t,u,z,?_,?_,H⟩
 ·dsimp only;rw[v,w,x,y];show eP (j,c)*eP (l,c)-eP (g,c)*eP (g,c)<0↔_;rw[U.2,<-V.2,J,(y8 (Y f)).2];exact anm
 dsimp only;rw[w,x,y];show eP (j,c)*eP (l,c)-eP (g,c)*eP (g,c)≠0;intro d;rw[d] at r;exact q (by rw[<-r];grind)
end
def X7 {A:X->X->eA} (h:∀m o,c4 (A m o)) {e:eu} {a:bm eE} {n:X} (d:iw e a) (c:e.length=n) (k:n<=12) (l:ff g n):qQ A g a=(uj,233,())\/∃ps f,qQ A g a=(pO g ps ((f:X):Z),0,())/\hQ n ps (pO g ps ((f:X):Z)):=by
 cases b:iM A a a.length with
 |none=>exact .inl (by unfold qQ;rw[b])
 |some r=>
  obtain⟨j,ps⟩:=r;obtain⟨i1,i⟩:=vO h d c (bc _) b;obtain⟨p,q⟩:=Jf h d c (bc _) b;have:hz n ps:=⟨i.all d c,i.de,p,q⟩;exact .inr ⟨ps,my j,by unfold qQ;rw[b],this.O8 k l _⟩
def No:AG ()=Y (bp,()):=by obtain⟨D,k⟩:∃D:X,D=65536:=⟨_,bn⟩;have i:∀m p,c4 (GS m p):=λm p=>kv _;obtain⟨_,j⟩:=vO i GU bn (cf _) LR;obtain⟨B,C⟩:=Jf i GU bn (cf _) LR;have t:hQ 2 [hl.de [0,1]] (pO [0,1] [hl.de [0,1]] (my [hl.elim [0,1]]:Z)):=hz.O8 ⟨j.all GU bn,j.de,B,C⟩ ab OY _;have e:=Mv (n:=2) (mR.F1 ab TP) agI TP OY (l:=ze) (by rw[TQ,TS];exact GU);rw[TQ,O4 (o:=[0,1]) (show ze.length=1 from rfl) LR] at e;have x:fI [hl.de [0,1]]=(1,0,1):=(by have v:(hl.de [0,1]).d=[0,na,0]:=(by rw[aeA,LS,LU,LV]);obtain⟨q,E,G,H,al,g,h,I,r⟩:=Ou k (a:=0) (b:=na) (c:=0) ab ab ab;rw[yG] at g;rw[(Ge k).2] at h;cases g;cases h;have f:(0:Z)<2^D:=aoy ab;have A:q<0:=(by refine Int.not_le.1 λs=>?_;have e:=am7 s (alq f);have J:=Int.mul_pos f f;rw[r,am9,Int.zero_mul] at e;omega);have w:hZ (hU (hl.de [0,1]).d)<0:=(by rw[v,al];exact(y8 (Y q)).2.2 A);have u:kk (hl.de [0,1])=(1,0,1):=ca ⟨bn,w⟩;unfold fI;rw[aoJ,aoJ,aoJ,u];rfl);have z:(pO [0,1] [hl.de [0,1]] (my [hl.elim [0,1]]:Z)).2.1=[2]:=rfl;generalize pO [0,1] [hl.de [0,1]] (my [hl.elim [0,1]]:Z)=F at*;unfold AG;refine ai (y:=((2,(2,([0,1,1],([1],([na],()))))),())) rfl ?_;dsimp only;refine ai e ?_;dsimp only;refine ai (P5 t) ?_;rw[x];dsimp only;rw[a7 (by rfl),a7 (by rfl),z];refine ai (UZ _ _ ab) ?_;rfl
end
section
abbrev zH:=bu (bm (Z×gB)×X)
theorem aS.ok {A:X} {c:eA} (f:A=65536) (j:i<=60000) (h:b<1048576) (e:aS A a i b c):c4 c:=λk d=>by obtain⟨l,a,_,g⟩:=e;rw[a] at d;cases d;exact amH f j h g
def rH (n:X) (Xa:X->eA) (x:zH):Prop:=∀a,a<n->gO x (a:Z)=Y (aA (Xa a))\/(gO x (a:Z)=bo/\Xa a=Y 0)
section
variable {n A:X} {ps:bm aK} {F:fy}
def Qr (m:hQ n ps F) (z:a<n):∃x,xT (F,(a:Z),())=Y (x,())/\rH n (λb=>fG ps b a) x:=by
 obtain⟨t,i,d,f⟩:=m.WD z;have H:=f.le;have G:=m.sq;suffices w:ae (xT (F,(a:Z),())) λs=>rH n (λb=>fG ps b a) s.1 by obtain⟨⟨x,_⟩,v,q⟩:=w;exact⟨x,v,q⟩
 unfold xT;refine bA (vF ab ab) ?_;dsimp only;refine bA (y:=Y (ku [] (a:Z) (aA (jm 1)),1)) rfl ?_;refine bA f.Ti ?_;refine bG (P:=λs=>rH n (λb=>fG ps b a) s.1) ?_ (by rintro⟨x,_⟩ q;exact bv.2 q);refine bR d.length (λc C=>∃h r,C=(((i+c:X):Z),Y (h,r),())/\∀b,b<n->gd h (b:Z)=if b=a then Y (aA (jm 1)) else if(ps.flatMap aK.a1).getD b 0∈d.take c then Y (aA (aP (t.2 ((ps.flatMap aK.a1).getD b 0)))) else bo) ⟨_,_,bn,λb k=>?_⟩ ?_ ?_
 ·rw[FO];by_cases e:b=a
  ·rw[au aa,au e]
  rw[ar aa,ar e,anN,ar ac];rfl
 ·rintro c _ o ⟨h,r,rfl,p⟩;obtain⟨D,E⟩:=f.i6 c o;obtain⟨I,J,B,aV,K⟩:=f.row d[c] ((f.mem _).1 (b6 o));dsimp only;rw[show aQ (a:Z)=((a+1:X):Z) from bg aa];refine bA f.s1 ?_;rw[a7 (aH (aa:((i+c:X):Z)<((i+d.length:X):Z)))];refine bA D (bA E (bA (q4 aV) ?_));dsimp only;rw[show aQ ((i+c:X):Z)=((i+c+1:X):Z) from bg aa];refine bA (y:=Y (ku h ((ps.flatMap aK.a1).idxOf d[c]:Z) (aA (aP (t.2 d[c]))),_)) rfl ?_;refine bv.2 ⟨_,_,bn,λb k=>?_⟩;rw[FO,p b k];by_cases e:b=(ps.flatMap aK.a1).idxOf d[c]
  ·have al:=m.ok.getD B;rw[<-e] at al;have A:d[c]∈d.take (c+1):=by
    rw[nh o];exact ln _ (gq.2 bn)
   rw[au aa,ar aa,al,au A]
  rw[ar aa];by_cases g:b=a
  ·rw[au g,au g]
  rw[ar g,ar g];have u:(ps.flatMap aK.a1).getD b 0∈d.take (c+1)↔(ps.flatMap aK.a1).getD b 0∈d.take c:=(by rw[nh o,g0,gq];refine⟨λj=>j.elim (λa=>a) λa=>absurd ?_ e,.inl⟩;rw[<-a,m.ok.idx k]);by_cases l:(ps.flatMap aK.a1).getD b 0∈d.take c
  ·rw[au l,au (u.2 l)]
  rw[ar l,ar (λj=>l (u.1 j))]
 rintro _ ⟨h,r,rfl,p⟩;dsimp only;rw[show aQ (a:Z)=((a+1:X):Z) from bg aa];refine bA f.s1 ?_;rw[a2 (aD (aa:¬((i+d.length:X):Z)<((i+d.length:X):Z)))];refine bv.2 λb k=>?_;show gd h (b:Z)=Y (aA (fG ps b a))\/(gd h (b:Z)=bo/\fG ps b a=Y 0);rw[p b k,cy];unfold fG;by_cases e:b=a
 ·rw[au e,au e];exact .inl bn
 rw[b8 e,b8 e,f.cs];dsimp only;by_cases g:(ps.flatMap aK.a1).getD b 0∈d
 ·rw[au g,au ((f.mem _).1 g)];exact .inl bn
 rw[ar g,ar (λj=>g ((f.mem _).2 j))];exact .inr ⟨bn,bn⟩
end
section
variable {n:X} {x y:zH} {d:eA} {Xa Ya:X->eA} {T:X->er}
def iF (n:X) (x y:zH) (d:eA) (Xa Ya:X->eA) (T:X->er) (b c a:X):er:=
 if(a %n<b\/(a %n=b/\a/n<c))/\((gO x ((a %n:X):Z)).isSome&&(gO y ((a/n:X):Z)).isSome)=bp then T a++[bk (bk (Xa (a %n)) d) (Ya (a/n))] else T a
def agW (b c a:X):(iF n x y d Xa Ya T b c a).length<=(T a).length+1:=by
 unfold iF;split
 ·rw[hI,nU];omega
 omega
def ad6 (C:n<=5) (M:rH n Xa x) (N:rH n Ya y) (J:c4 d) (H:∀b,b<n->c4 (Xa b)) (I:∀b,b<n->c4 (Ya b)) (G:∀a,a<n*n->(T a).length<=1000):tw (x,y,aA d,Y (n:Z),az (n*n) (λa=>(T a).map aA),())=Y (az (n*n) (λa=>(iF n x y d Xa Ya T n 0 a).map aA),()):=by
 have am:=sD C;refine bO.1 ?_;unfold tw;dsimp only;rw[bN];refine bG (P:=λs=>s=(az (n*n) (λa=>(iF n x y d Xa Ya T n 0 a).map aA),())) ?_ (by rintro _ rfl;exact bv.2 bn);refine bR n (λb t=>t=((b:Z),az (n*n) (λa=>(iF n x y d Xa Ya T b 0 a).map aA),())) ?_ ?_ ?_
 ·have:(λa=>(iF n x y d Xa Ya T 0 0 a).map aA)=λa=>(T a).map aA:=by
   funext a;unfold iF;rw[ar (λo=>o.1.elim (oL _) λf=>oL _ f.2)]
  rw[this];rfl
 ·rintro b _ h rfl;dsimp only;rw[a7 (aH (aa:(b:Z)<(n:Z))),bN,show aQ (b:Z)=((b+1:X):Z) from bg aa];refine bG (P:=λs=>s=(az (n*n) (λa=>(iF n x y d Xa Ya T (b+1) 0 a).map aA),())) ?_ (by rintro _ rfl;exact bv.2 bn);refine bR n (λc t=>t=((c:Z),az (n*n) (λa=>(iF n x y d Xa Ya T b c a).map aA),())) rfl ?_ ?_
  ·rintro c _ i rfl;obtain⟨w,z⟩:=yb (n:=n) (j:=c) h;have k:=CY i h;have U:=G _ k;have S:=agW (n:=n) (x:=x) (y:=y) (d:=d) (Xa:=Xa) (Ya:=Ya) (T:=T) b c (c*n+b);dsimp only;rw[a7 (aH (aa:(c:Z)<(n:Z))),show aQ (c:Z)=((c+1:X):Z) from bg aa];refine bA (y:=(az (n*n) (λa=>(iF n x y d Xa Ya T b (c+1) a).map aA),())) ?_ (bv.2 bn);have D:∀a,a<n*n->a≠c*n+b->iF n x y d Xa Ya T b (c+1) a=iF n x y d Xa Ya T b c a:=λa g L=>by
    have ad:0<n:=aa;have K:a/n*n+a %n=a:=apQ a n;unfold iF;have m:(a %n<b\/(a %n=b/\a/n<c+1))↔(a %n<b\/(a %n=b/\a/n<c)):=by
     constructor
     ·rintro(f|⟨l,r⟩)
      ·exact .inl f
      refine .inr ⟨l,Nat.lt_of_le_of_ne (Nat.le_of_lt_succ r) λO=>L ?_⟩;rw[<-K,l,O]
     rintro(f|⟨l,r⟩)
     ·exact .inl f
     exact .inr ⟨l,Nat.lt_succ_of_lt r⟩
    simp only[m]
   have A:iF n x y d Xa Ya T b c (c*n+b)=T (c*n+b):=(by unfold iF;rw[w,z,ar aa]);have B:iF n x y d Xa Ya T b (c+1) (c*n+b)=if((gO x (b:Z)).isSome&&(gO y (c:Z)).isSome)=bp then T (c*n+b)++[bk (bk (Xa b) d) (Ya c)] else T (c*n+b):=by
    unfold iF;rw[w,z];by_cases e:((gO x (b:Z)).isSome&&(gO y (c:Z)).isSome)=bp
    ·rw[au ⟨.inr ⟨bn,aa⟩,e⟩,au e]
    rw[ar (λo=>e o.2),ar e]
   refine ai (y:=((gO x (b:Z)).isSome&&(gO y (c:Z)).isSome,az (n*n) (λa=>(iF n x y d Xa Ya T b c a).map aA),(gO x (b:Z)).getD (bq,(bq,[],()),0,()),(gO y (c:Z)).getD (bq,(bq,[],()),0,()),())) ?_ ?_
   ·cases(gO x (b:Z)).isSome
    ·rfl
    rfl
   dsimp only;cases q:((gO x (b:Z)).isSome&&(gO y (c:Z)).isSome) with
   |false=>
    rw[bP];have:az (n*n) (λa=>(iF n x y d Xa Ya T b (c+1) a).map aA)=az (n*n) (λa=>(iF n x y d Xa Ya T b c a).map aA):=df λa g=>by
     by_cases e:a=c*n+b
     ·rw[e,A,B,q,ar ab]
     rw[D a g e]
    rw[this]
   |true=>
    obtain⟨u,v⟩:=Bool.and_eq_true_iff.1 q;have E:gO x (b:Z)=Y (aA (Xa b)):=(M b h).resolve_right λf=>(by rw[f.1] at u;cases u);have F:gO y (c:Z)=Y (aA (Ya c)):=(N c i).resolve_right λf=>(by rw[f.1] at v;cases v);have p:(az (n*n) (λa=>(iF n x y d Xa Ya T b c a).map aA))[c*n+b]?=Y ((T (c*n+b)).map aA):=(by rw[gV k,A]);rw[bF,bN,bN,E,F,Ur C i h];refine ai (e9 (by rw[cI];exact k)) (ai (oZ (H b h) J) (ai (oZ (oi _ _) (I c i)) ?_));dsimp only;refine ai (hb p) ?_;rw[e3 (by rw[b9,anU];omega),bN];refine ai (e9 (by rw[cI];exact k)) ?_;rw[a7 ac];refine ai (hb p) (ai (hb p) ?_);have:(az (n*n) (λa=>(iF n x y d Xa Ya T b c a).map aA)).set (c*n+b) ((T (c*n+b)).map aA++[aA (bk (bk (Xa b) d) (Ya c))])=az (n*n) (λa=>(iF n x y d Xa Ya T b (c+1) a).map aA):=by
     rw[ho];refine df λa g=>?_;by_cases e:a=c*n+b
     ·subst e;rw[gH,B,q,au bn,jC];rfl
     rw[g6 _ _ e,D a g e]
    rw[this]
  rintro _ rfl;dsimp only;rw[a2 (aD (aa:¬((n:Z)<(n:Z))))];have:az (n*n) (λa=>(iF n x y d Xa Ya T b n a).map aA)=az (n*n) (λa=>(iF n x y d Xa Ya T (b+1) 0 a).map aA):=df λa g=>(by have V:a/n<n:=aoK g;have m:(a %n<b\/(a %n=b/\a/n<n))↔(a %n<b+1\/(a %n=b+1/\a/n<0)):=(by generalize a %n=Q;generalize a/n=R at*;omega);unfold iF;simp only[m]);rw[this];exact bv.2 bn
 rintro _ rfl;dsimp only;rw[a2 (aD (aa:¬((n:Z)<(n:Z))))];exact bv.2 bn
end
section
variable {n A:X} {ps:bm aK} {F:fy} {P:Rat}
theorem aex (h:A=65536) (i:P=(((2:Z)^A:Z):Rat)) {a d b:eA} (q:aS A 1074 1024 1 a) (s:aS A 1074 1024 1 d) (r:aS A 1074 1024 1 b):aS A 3222 3072 1 (bk (bk a d) b)/\cC (bk (bk a d) b)*(P*P)=cC a*cC d*cC b:=by obtain⟨t,e,f,c,al,l,m,n⟩:=q.mul h s ab ab ab;obtain⟨u,k,g,j,o,f2,p,f4⟩:=t.mul h r ab ab ab;refine⟨u,?_⟩;obtain rfl:c=k:=gC (m.symm.trans o);have v:(c:Rat)*P=(e:Rat)*(f:Rat):=(by rw[i,<-oP,<-oP,n]);have w:(j:Rat)*P=(c:Rat)*(g:Rat):=(by rw[i,<-oP,<-oP,f4]);rw[p,al,l,f2];show(j:Rat)*(P*P)=(e:Rat)*(f:Rat)*(g:Rat);rw[<-v,<-are,w];grind
def py (A:X) (P b:Rat) (c:X) (a:er):Prop:=a.length<=c/\(∀d∈a,aS A 3222 3072 1 d)/\((jI a:Z):Rat)*(P*P)=b
theorem py.next (n:A=65536) (p:P=(((2:Z)^A:Z):Rat)) {e f:er} {b d c:eA} (m:py A P h a e) (q:aS A 1074 1024 1 b) (s:aS A 1074 1024 1 d) (r:aS A 1074 1024 1 c) (o:f=e++[bk (bk b d) c]\/(f=e/\(b=Y 0\/c=Y 0))):py A P (h+cC b*cC d*cC c) (a+1) f:=by
 obtain⟨x,k,i⟩:=m;rcases o with rfl|⟨rfl,u⟩
 ·obtain⟨v,w⟩:=aex n p q s r;refine⟨by rw[hI,nU];omega,λg t=>?_,?_⟩
  ·rcases g0.1 t with j|j
   ·exact k g j
   rw[gq.1 j];exact v
  rw[T4];have g:jI [bk (bk b d) c]=(bk (bk b d) c).getD 0:=(by show _+(0:Z)=_;omega);rw[g,ard,<-i,<-w];unfold cC;grind
 refine⟨aa,k,?_⟩;have l:cC (Y 0)=0:=rfl;rcases u with rfl|rfl
 ·rw[i,l];grind
 rw[i,l];grind
def agV {x y:zH} {d:eA} {Xa Ya:X->eA} {T:X->er} (f:b<n) (k:a<n) (l:rH n Xa x) (m:rH n Ya y):iF n x y d Xa Ya T n 0 (a*n+b)=T (a*n+b)++[bk (bk (Xa b) d) (Ya a)]\/(iF n x y d Xa Ya T n 0 (a*n+b)=T (a*n+b)/\(Xa b=Y 0\/Ya a=Y 0)):=by
 obtain⟨g,h⟩:=yb (n:=n) (j:=a) f;unfold iF;rw[g,h];by_cases e:((gO x (b:Z)).isSome&&(gO y (a:Z)).isSome)=bp
 ·rw[au ⟨.inl f,e⟩];exact .inl bn
 rw[ar (λi=>e i.2)];refine .inr ⟨bn,?_⟩;rcases l b f with al|⟨_,al⟩
 ·rcases m a k with c|⟨_,c⟩
  ·exact absurd (by rw[al,c];rfl) e
  exact .inr c
 exact .inl al
theorem py.len {S:Rat} {T:X->er} (i:∀c e,c<n->e<n->py A P (d c e) a (T (e*n+c))) (j:a<=1000):∀b,b<n*n->(T b).length<=1000:=λb g=>by have k:0<n:=aoL λh=>(by rw[h] at g;omega);have f:=i (b %n) (b/n) (rI _ k) (aoK g);rw[apQ b n] at f;exact cO f.1 j
def Gh (f:A=65536) (r:P=(((2:Z)^A:Z):Rat)) (t:n<=5) {x y:zH} {d:eA} {Xa Ya:X->eA} (p:rH n Xa x) (q:rH n Ya y) (o:aS A 1074 1024 1 d) (l:∀b,b<n->aS A 1074 1024 1 (Xa b)) (m:∀b,b<n->aS A 1074 1024 1 (Ya b)) {T:X->er} {i:X->X->Rat} (k:∀b c,b<n->c<n->py A P (i b c) a (T (c*n+b))) (s:a<=1000):∃j:X->er,tw (x,y,aA d,Y (n:Z),az (n*n) (λh=>(T h).map aA),())=Y (az (n*n) (λh=>(j h).map aA),())/\∀b c,b<n->c<n->py A P (i b c+cC (Xa b)*cC d*cC (Ya c)) (a+1) (j (c*n+b)):=
 ⟨_,ad6 t p q (o.ok f ab ab) (λb e=>(l b e).ok f ab ab) (λb e=>(m b e).ok f ab ab) (py.len (S:=0) k s),λb c e g=>(k b c e g).next f r (l b e) o (m c g) (agV e g p q)⟩
theorem ZD (f:hQ n ps F) (o:n<=5):As (F,())=Y (((n:Z),(n:Z),az (n*n) (λb=>aA (nL ps n (b %n) (b/n))),()),0,()):=by
 obtain⟨A,j⟩:∃A:X,A=65536:=⟨_,bn⟩;obtain⟨P,p⟩:∃P:Rat,P=(((2:Z)^A:Z):Rat):=⟨_,bn⟩;have av:0<P:=(by rw[p];exact Lj A);have d6:=sD o;obtain⟨ce,_,_,d8,_⟩:=f.small;unfold As;refine ai (JU f) ?_;dsimp only;rw[a2 (by rfl),bb,ce,a2 (aD (aa:¬((n:Z)>64))),Us o];refine ai (im aa) (ai (Sb f) ?_);dsimp only;refine ai (IX f) ?_;dsimp only;refine bO.1 ?_;generalize d7:(((0:Z),((0:Z),(([]:bm gB),()))):nv)=t;refine bG (P:=λs=>∃T:X->er,s=(t,(n:Z),az (n*n) (λb=>(T b).map aA),())/\∀a e,a<n->e<n->py A P (ga (λg=>cC (aP g)) (λh=>cC (fG ps a h)) (λi=>cC (fG ps e i)) ps 0) (4*ps.length) (T (e*n+a))) ?_ ?_
 ·refine bR ps.length (λc H=>∃T:X->er,H=((c:Z),t,(n:Z),az (n*n) (λb=>(T b).map aA),ps.map jj,())/\∀a e,a<n->e<n->py A P (ga (λg=>cC (aP g)) (λh=>cC (fG ps a h)) (λi=>cC (fG ps e i)) (ps.take c) 0) (4*c) (T (e*n+a))) ?_ ?_ ?_
  ·refine⟨λ_=>[],?_,λa e _ _=>⟨eJ _,λd l=>(by cases l),?_⟩⟩
   ·rw[jk];rfl
   show((0:Z):Rat)*(P*P)=0;rw[show((0:Z):Rat)=0 from rfl];grind
  ·rintro c _ m ⟨T,rfl,q⟩;have d5:=f.ok.Bn m;obtain⟨C,ek,el⟩:=f.ok.iu m;have a3:=(f.ok.k _ (cL m)).A0;have l:∀a,aS A 1074 1024 1 (aP (ps[c].d.getD a 0)):=λa=>alj j (O0 a3 a);have w:∀a,a<ps[c].d.length->aw (jj ps[c]) (a:Z)=Y (aA (aP (ps[c].d.getD a 0))):=λa r=>by
    unfold jj;rw[eT (by rw[dh];exact r),lR,kr r]
   have a4:ao (jj ps[c])=(ps[c].d.length:Z):=(by unfold jj;rw[bb,dh]);have M:eK ps c<n:=aa;obtain⟨x,d1,z⟩:=Qr f M;have u:∀a,a<n->aS A 1074 1024 1 (fG ps a (eK ps c)):=λa _=>CE j f M;obtain⟨V,ci,S⟩:=Gh j p o z z (l 0) u u q aa;have O:∀a e,ga (λg=>cC (aP g)) (λh=>cC (fG ps a h)) (λi=>cC (fG ps e i)) (ps.take (c+1)) 0=ga (λg=>cC (aP g)) (λh=>cC (fG ps a h)) (λi=>cC (fG ps e i)) (ps.take c) 0+
    ga (λg=>cC (aP g)) (λh=>cC (fG ps a h)) (λi=>cC (fG ps e i)) [ps[c]] (eK ps c):=λa e=>by
    rw[nh m,H0,mm];rfl
   dsimp only;rw[bb,b9,a7 (aH (aa:(c:Z)<(ps.length:Z))),show aQ (c:Z)=((c+1:X):Z) from bg aa];refine bG (P:=λs=>∃T:X->er,s=(t,(n:Z),az (n*n) (λb=>(T b).map aA),ps.map jj,())/\∀a e,a<n->e<n->py A P (ga (λg=>cC (aP g)) (λh=>cC (fG ps a h)) (λi=>cC (fG ps e i)) (ps.take (c+1)) 0) (4*(c+1)) (T (e*n+a))) ?_ (by
    rintro _ ⟨U,rfl,a0⟩;exact bv.2 ⟨U,bn,a0⟩)
   rw[iE (by rw[b9];exact m),anb];refine bA (Jg m) (bA d1 ?_);dsimp only;refine bA (w 0 aa) (bA ci ?_);dsimp only;rw[a4,g2];rcases C with C|C
   ·rw[aD (aa:¬((ps[c].d.length:Z)=3)),bP];refine bv.2 ⟨V,bn,λa e r E=>?_⟩;obtain⟨dl,I,J⟩:=S a e r E;refine⟨aa,I,?_⟩;rw[J,O,ga,ar aa];show _=_+(_+(0:Rat));grind
   have N:eK ps c+1<n:=aa;obtain⟨y,d2,B⟩:=Qr f N;have v:∀a,a<n->aS A 1074 1024 1 (fG ps a (eK ps c+1)):=λa _=>CE j f N;obtain⟨d3,co,cs⟩:=Gh j p o z B (l 1) u v S aa;obtain⟨d4,cv,c1⟩:=Gh j p o B z (l 1) v u cs aa;obtain⟨ad,c2,dg⟩:=Gh j p o B B (l 2) v v c1 aa;rw[aH (aa:((ps[c].d.length:Z)=3)),bF];refine bA (Jg m) ?_;rw[show aQ (eK ps c:Z)=((eK ps c+1:X):Z) from bg aa];refine bA d2 ?_;dsimp only;refine bA (w 1 aa) (bA co ?_);dsimp only;refine bA (w 1 aa) (bA cv ?_);dsimp only;refine bA (w 2 aa) (bA c2 ?_);dsimp only;refine bv.2 ⟨ad,bn,λa e r E=>?_⟩;obtain⟨dl,I,J⟩:=dg a e r E;refine⟨aa,I,?_⟩;rw[J,O,ga,ca C];show _=_+(_+(0:Rat));grind
  rintro _ ⟨T,rfl,q⟩;dsimp only;rw[bb,b9,a2 (aD (aa:¬((ps.length:Z)<(ps.length:Z))))];rw[cy] at q;exact bv.2 ⟨T,bn,q⟩
 rintro _ ⟨T,rfl,q⟩;dsimp only;refine bG (P:=λs=>s=(t,((n:Z),(n:Z),az (n*n) (λb=>aA (nL ps n (b %n) (b/n))),()),())) ?_ (by rintro _ rfl;exact bv.2 bn);refine bR (n*n) (λb H=>H=((b:Z),t,az (n*n) (λb=>(T b).map aA),((n:Z),(n:Z),az b (λb=>aA (nL ps n (b %n) (b/n))),()),())) rfl ?_ ?_
 ·rintro b _ G rfl;have bl:0<n:=aoL λam=>(by rw[am] at G;omega);have Q:=rI b bl;have R:=aoK G;obtain⟨ap,D,L⟩:=q (b %n) (b/n) Q R;rw[apQ b n] at ap D L;obtain⟨K,v1,fb,ds,v4⟩:=Ld j p f o Q R;obtain⟨d0,d9,eD⟩:=aS.e6 D;have bx:sF (T b)=nL ps n (b %n) (b/n):=by
   have al:jI (T b)=K:=apO.1 (ae3 av (L.trans v4.symm));have an:gz K:=amH j ab ab ds;unfold sF n9;rw[v1,au d0,al,au an]
  dsimp only;rw[bb,cI,a7 (aH (aa:(b:Z)<((n*n:X):Z))),show aQ (b:Z)=((b+1:X):Z) from bg aa,iE (by rw[cI];exact G),k1];refine bA (Xp (λd l=>(D d l).ok j ab ab) aa) ?_;dsimp only;rw[bx,e3 (by rw[cI,anU];omega),bN];refine bv.2 ?_;show _=_;rw[o3]
 rintro _ rfl;dsimp only;rw[bb,cI,a2 (aD (aa:¬(((n*n:X):Z)<((n*n:X):Z))))];exact bv.2 bn
end
end
section
section
variable {n A:X} {B:X->X->eA} {Q:X->eA}
def A1 (B:X->X->eA) (Q:X->eA) (n a:X):eA:=zQ (cM (B (a %n) (a/n)) (c5 (Q a)))
def mC (B:X->X->eA) (Q:X->eA) (n:X):X->Z
 |0=>0
 |t+1=>if mC B Q n t<(A1 B Q n t).getD 0 then(A1 B Q n t).getD 0 else mC B Q n t
def I3 (j:A=65536) (i:∀k l,aS A 1074 1024 1 (B k l)) (d:aS A 3222 3072 15 (Q a)):∃b,A1 B Q n a=Y b/\b.natAbs<=16*2^(A+3072)/\b=((B (a %n) (a/n)).getD 0-(Q a).getD 0).natAbs:=by
 have h:aS A 3222 3072 1 (B (a %n) (a/n)):=(i _ _).mono ab ab ab;obtain⟨⟨m,al,_,e⟩,c⟩:=alN j ab h d.neg ab;refine⟨(m.natAbs:Z),?_,e,?_⟩
 ·unfold A1;rw[al];rfl
 rw[al] at c;have f:=gC c;have g:(c5 (Q a)).getD 0=-(Q a).getD 0:=(by rw[d.val];rfl);rw[f,g,Int.sub_eq_add_neg]
def Kt (c:A=65536) (b:∀h i,aS A 1074 1024 1 (B h i)) {a:X} (d:∀t,t<a->aS A 3222 3072 15 (Q t)):∀t,t<=a->(mC B Q n t).natAbs<=16*2^(A+3072)
 |0,_=>eJ _
 |t+1,f=>by
  obtain⟨j,g,e,_⟩:=I3 (n:=n) c b (d t f);unfold mC;rw[g];split
  ·exact e
  exact Kt c b d t aa
def ad3 (b:A=65536) (t:n<=5) (g:∀v w,aS A 1074 1024 1 (B v w)) (h:∀a,a<n*n->aS A 3222 3072 15 (Q a)) {c:fy} {j:rP} (p:vr (c,())=Y (0,())) (q:Ab (j,c.1,())=Y (((n:Z),(n:Z),k9 B n,()),0,())) (r:As (c,())=Y (((n:Z),(n:Z),az (n*n) (λa=>aA (Q a)),()),0,())):DF (j,c,())=Y (aA (Y (mC B Q n (n*n))),0,()):=by
 have D:=sD t;unfold DF;refine ai p ?_;dsimp only;rw[a2 (by rfl)];refine ai q ?_;dsimp only;rw[a2 (by rfl)];refine ai r ?_;dsimp only;refine ai (vF ab ab) ?_;dsimp only;rw[Ze];refine bO.1 ?_;generalize E:((bq,((bq,([],())),((0:Z),()))):cS)=i;refine bG (P:=λz=>z=(i,aA (Y (mC B Q n (n*n))),())) ?_ (by rintro _ rfl;exact bv.2 bn);refine bR (n*n) (λa C=>C=((a:Z),i,((n:Z),(n:Z),k9 B n,()),((n:Z),(n:Z),az (n*n) (λa=>aA (Q a)),()),aA (Y (mC B Q n a)),())) rfl ?_ ?_
 ·rintro a _ e rfl;obtain⟨f,k,u,_⟩:=I3 (n:=n) b g (h a e);have s:=Kt (n:=n) b g h a aa;dsimp only;rw[a7 (aH (show(a:Z)<ao (k9 B n) by rw[bb];unfold k9;rw[cI];omega)),bg aa];have al:aw (k9 B n) (a:Z)=Y (aA (B (a %n) (a/n))):=(by unfold k9;rw[eT (by rw[cI];exact e),k1]);have m:aw (az (n*n) (λa=>aA (Q a))) (a:Z)=Y (aA (Q a)):=gJ (gV e);refine bA (y:=(i,((n:Z),(n:Z),k9 B n,()),((n:Z),(n:Z),az (n*n) (λa=>aA (Q a)),()),aA (Y (mC B Q n (a+1))),())) ?_ (bv.2 bn);refine ai al (ai m (ai (EX ((g _ _).ok b ab ab) ((h a e).ok b ab ab)) ?_));dsimp only;refine ai (W7 (pC _ _)) ?_;have l:zQ (cM (B (a %n) (a/n)) (c5 (Q a)))=Y f:=k;rw[l];dsimp only;refine ai (IV (amH b ab ab u) (amH b ab ab s)) ?_;have o:mC B Q n (a+1)=if mC B Q n a<f then f else mC B Q n a:=by
   rw[mC,k];rfl
  dsimp only;rw[c7,o];by_cases d:mC B Q n a<f
  ·rw[au ((NW _ _).2 d),au d]
  rw[ar (λx=>d ((NW _ _).1 x)),ar d]
 rintro _ rfl;dsimp only;rw[a2 (aD (show¬((n*n:X):Z)<ao (k9 B n) by rw[bb];unfold k9;rw[cI];omega))];exact bv.2 bn
end
def aev {n A:X} {c:fy} (i:A=65536) (h:hQ n l c) (j:n<=5) (b:a<n*n):aS A 3222 3072 15 (nL l n (a %n) (a/n)):=by have k:0<n:=aoL λe=>(by rw[e] at b;omega);obtain⟨d,al,f,g,_⟩:=Ld i bn h j (rI a k) (aoK b);exact⟨d,al,f,g⟩
end
section
def SS {b f:bz} {e:Z} (j:0<a) (h:c8 a e<=900):bh (la b a e f 0)≠2047:=by
 have c:=zi (neg:=b) (q0:=f) (qZ:=0) (e:=e) j;have i:-1074<=c8 a e:=(by unfold c8;omega);unfold la;generalize c8 a e=k at*;by_cases g:k<=e
 ·rw[au g] at c|-;obtain⟨ax,d⟩:=Gg (neg:=b) 0 c i h;exact d
 rw[ar g] at c|-;obtain⟨ax,d⟩:=Gg (neg:=b) 0 c i h;exact d
def E9:bh 0≠2047:=by decide
def afB (d:aF c.natAbs<=65536+900):bh (p4 c 0)≠2047:=by
 unfold p4;by_cases a:c=0
 ·rw[au a];exact E9
 rw[ar a];have b:0<(cD c).natAbs:=(by have:=j1 a;omega);have e:=yF a;have f:=qc (n:=c.natAbs) aa;refine SS b ?_;unfold c8 cW;omega
def aeJ {q:X} (i:c≠0) (l:j≠0) (w:aF c.natAbs<=aF j.natAbs+q) (z:q<=900):bh (om c j 0)≠2047:=by have f:0<(cD c).natAbs:=(by have:=j1 i;omega);have d:0<(cD j).natAbs:=(by have:=j1 l;omega);have t:=yF i;have u:=yF l;have B:=qc (n:=c.natAbs) aa;have C:=qc (n:=j.natAbs) aa;have y:oj (cD c).natAbs (cD j).natAbs=59+aF (cD j).natAbs-aF (cD c).natAbs:=rfl;unfold om yV;generalize oj (cD c).natAbs (cD j).natAbs=k at*;have al:cW c=(cR c.natAbs:Z)-65536:=rfl;have v:cW j=(cR j.natAbs:Z)-65536:=rfl;generalize(cD c).natAbs=a at*;generalize(cD j).natAbs=b at*;have g:=Gp (k:=k) f d aa;have h:0<a*2^k/b:=(by refine aoL λs=>?_;rw[s] at g;exact absurd g ab);refine SS h ?_;have r:a*2^k/b*b<=a*2^k:=Nat.div_mul_le_self _ _;have m:=(oV h).1;have o:=(oV d).1;have p:=(oV f).2;have e:2^(aF (a*2^k/b)-1)*2^(aF b-1)<2^aF a*2^k:=Nat.lt_of_le_of_lt (cO (nr m o) r) (Nat.mul_lt_mul_of_pos_right p (iV k));rw[<-hy,<-hy] at e;have x:=(Nat.pow_lt_pow_iff_right (by decide:1<2)).1 e;have A:=pE d;unfold c8;omega
section
variable {C e k:X} {a b d:eA}
def aS.up (a:aS C e k 2 d):aS C e (k+1) 1 d:=by obtain⟨f,rfl,b,c⟩:=a;refine⟨f,bn,b,cO c (amT ?_)⟩;rw[<-qx,nX,j6,h3]
def Lv (f:C=65536) (b:aS C e k 1 d) (g:k<=890):bh (kx d 0)≠2047:=by obtain⟨h,rfl,c,a⟩:=b;rw[h3] at a;refine afB ?_;have:=jU a;have:aF (2^(C+k))<=C+k+1:=fJ.2 (yN _ _ aa);omega
def Lu (n:C=65536) (i:aS C e k 1 d) (o:e<=1074) (p:k<=890):aS C e (k+1) 1 (aP (kx d 0))/\(d≠Y 0->aP (kx d 0)≠Y 0):=by
 obtain⟨b,rfl,c,f⟩:=i;by_cases g:b=0
 ·subst g;have:kx (Y 0) 0=0:=rfl;rw[this,yG];exact⟨amd,λa=>absurd rfl a⟩
 rw[h3] at f;have j:aF b.natAbs<=65536+900:=(by have:=jU f;have:aF (2^(C+k))<=C+k+1:=fJ.2 (yN _ _ aa);omega);obtain⟨ax,h,l,m,q,r⟩:=afC 0 g (c.mono aa) j;have al:aP (kx (Y b) 0)=Y h:=l;rw[al];refine⟨⟨h,bn,m _ c,?_⟩,λ_ a=>?_⟩
 ·rw[h3,<-qx,nX];omega
 cases a;omega
def Sv (s:C=65536) {m k h:X} (A:aS C m k 1 a) (B:aS C i h 1 b) (D:b≠Y 0) (J:k+i<=800) (K:m+h<=1000) (L:i+h<=3900):bh (fi a b 0)≠2047/\aS C (m+h+53) (k+i+1) 1 (aP (fi a b 0))/\∃f e l,a=Y f/\b=Y e/\aP (fi a b 0)=Y l/\l.natAbs*e.natAbs<=2*(f.natAbs*2^C):=by
 obtain⟨f,rfl,v,o⟩:=A;obtain⟨e,rfl,w,p⟩:=B;have g:e≠0:=λy=>D (by rw[y]);rw[h3] at o p;by_cases j:f=0
 ·subst j;have:fi (Y 0) (Y e) 0=0:=by
   show(if e=0 then _ else if(0:Z)=0 then 0 else _)=0;rw[ar g,au bn]
  rw[this,yG];exact⟨E9,amd,0,e,0,bn,bn,bn,by rw[Int.natAbs_zero,Nat.zero_mul];exact eJ _⟩
 have x:fi (Y f) (Y e) 0=om f e 0:=(by show(if e=0 then _ else if f=0 then 0 else _)=_;rw[ar g,ar j]);rw[x];have z:=v.ge j;have r:=w.ge g;have G:aF f.natAbs<=C+k+1:=cO (jU o) (fJ.2 (yN _ _ aa));have H:C-i<aF e.natAbs:=rT.2 r;have I:aF e.natAbs<=C+h+1:=cO (jU p) (fJ.2 (yN _ _ aa));have n:bh (om f e 0)≠2047:=aeJ (q:=k+i+1) j g aa aa;have M:=yF g;have N:=(fW.G2 g).1 w;have O:=v.ex j;obtain⟨l,v1,fb⟩:=aeK j g aa aa n;rw[<-s] at fb;obtain⟨F,u⟩:=aeI (d:=m) (b:=h) z p aa aa fb;have E:=Yk s n v1 (t:=m+h+1) aa F;refine⟨n,⟨l,v1,E,?_⟩,f,e,l,bn,bn,v1,u⟩;rw[h3];refine Ht (c:=2^(C-i)) ?_ (iV _);refine cO (xd _ r) (cO u ?_);have:2*(f.natAbs*2^C)<=2*(2^(C+k)*2^C):=xd _ (gj _ o);refine cO this (amT ?_);rw[<-hy,<-hy,j6 2,<-nX];congr 1;omega
end
end
section
def jZ:X->X
 |0=>5
 |1=>16
 |2=>162
 |_=>848
def kn:X->X
 |0=>0
 |1=>124
 |2=>518
 |_=>1992
def PV (c:a<=b):jZ a<=jZ b:=by rcases a with _|_|_|a<;>rcases b with _|_|_|b<;>simp only[jZ]<;>omega
def Xv (c:a<=b):kn a<=kn b:=by rcases a with _|_|_|a<;>rcases b with _|_|_|b<;>simp only[kn]<;>omega
theorem PU (m:X):jZ m<=848:=by rcases m with _|_|_|m<;>simp only[jZ]<;>omega
def Zk {m:X} (a:m<=2):kn m<=518/\jZ m<=162/\2*jZ m+kn m+6<=jZ (m+1)/\3*kn m+2*jZ m+114<=kn (m+1):=by rcases m with _|_|_|m<;>simp only[jZ,kn]<;>omega
def Zl {m:X} (a:m<=1):kn m<=124/\jZ m<=16/\5*jZ m+4*kn m+22<=jZ (m+2)/\5*kn m+4*jZ m+124<=kn (m+2):=by rcases m with _|_|m<;>simp only[jZ,kn]<;>omega
section
variable {K e k f m n:X} {x:a9} {d:eA}
theorem aS.ahe (a:aS K e k 8 d):aS K e (k+3) 1 d:=by obtain⟨f,rfl,b,c⟩:=a;refine⟨f,bn,b,cO c (amT ?_)⟩;grind
theorem aS.Sp:aS K e k (2^f) d↔aS K e (k+f) 1 d:=by have al:2^f*2^(K+k)=1*2^(K+(k+f)):=(by grind);grind [aS]
structure mS (K f m:X) (x:a9):Prop where
 w:lL x
 len:x.rows.length+m<=4
 E1:∀i∈x.rows,∀j∈x.rows,aS K (kn m) (jZ m+f) 1 (x.s i j)
theorem mS.fin (c:K=65536) (h:f<=3) (b:mS K f m x) {a:X} (e:a∈x.rows):x.fin a:=λg d=>Lv c (b.E1 g d a e) (by grind [PU])
theorem NR (c:∀p∈x.rows,x.fin p):∀a:ak9,(∀p∈a,p∈x.rows)->x.ik a≠bo
 |[],_=>by simp[anj]
 |p::a,b=>by
  rw[anj,ar (ale (c p (b p (jd ..))))];split
  ·simp
  split
  ·simp
  rename_i g h;by_cases d:g∉x.rows.take x.full
  ·rw[au d];exact NR c a λf e=>b f (gx _ e)
  grind
theorem mS.one (c:K=65536) (a4:f<=3) (A:mS K f m x) (F:m<=2) {a:X} (p:a∈x.rows) {b d:X} (h:b∈x.rows) (u:d∈x.rows):bh (if kt (x.ba a a)=0 then 0 else fi (x.s b a) (aP (x.ba a a)) 0)≠2047/\aS K (kn (m+1)) (jZ (m+1)+f) 1 (cM (x.s b d) (c5 (iQ (if kt (x.ba a a)=0 then 0 else fi (x.s b a) (aP (x.ba a a)) 0) (x.ba a a) (if kt (x.ba a a)=0 then 0 else fi (x.s d a) (aP (x.ba a a)) 0)))):=by
 obtain⟨ap,av,a0,a3⟩:=Zk F;obtain⟨k,E⟩:∃k,k=jZ m+f:=⟨_,bn⟩;obtain⟨e,C⟩:∃e,e=kn m:=⟨_,bn⟩;have g:=A.E1;rw[<-E,<-C] at g;have t:=g a p a p;have D:bh (x.ba a a)≠2047:=Lv c t aa;have o:aS K e (k+1) 1 (aP (x.ba a a)):=(Lu c t aa aa).1;have v:∀b,b∈x.rows->bh (if kt (x.ba a a)=0 then 0 else fi (x.s b a) (aP (x.ba a a)) 0)≠2047/\aS K (e+k+54) (k+e+1) 1 (aP (if kt (x.ba a a)=0 then 0 else fi (x.s b a) (aP (x.ba a a)) 0))/\
  aS K (2*e+k+54) (k+1) 1 (bk (aP (if kt (x.ba a a)=0 then 0 else fi (x.s b a) (aP (x.ba a a)) 0)) (aP (x.ba a a))):=λb h=>by
  by_cases n:kt (x.ba a a)=0
  ·rw[au n,yG];refine⟨E9,amd,?_⟩;have B:aS K e 0 1 (Y 0):=amd;obtain⟨_,R,S,T,al,l,q,r⟩:=B.mul c o aa aa ab;cases al;clear c;simp_all [amd,nm,zz,aeC,absurd]
  rw[ar n];have i:=g b h a p;have G:aP (x.ba a a)≠Y 0:=λN=>n ((UB D).1 N);obtain⟨ax,j,am,an,ad,O,P,Q,ce⟩:=Sv c i o G aa aa aa;have j:aS K (e+k+54) (k+e+1) 1 (aP (fi (x.s b a) (aP (x.ba a a)) 0)):=j.mono aa aa ab;refine⟨ax,j,?_⟩;obtain⟨⟨U,y,V,_⟩,R,S,T,al,l,q,r⟩:=j.mul c o aa aa ab;rw[Q] at al;rw[P] at l;cases al;cases l;rw[q] at y|-;cases y;refine⟨U,bn,V.mono aa,?_⟩;obtain⟨ci,w,_,co⟩:=i;rw[O] at w;cases w;have z:=b3 amG r;rw[i7,lj] at z;grind
 obtain⟨i1,bl,I⟩:=v b h;obtain⟨bs,J,bx⟩:=v d u;refine⟨i1,?_⟩;generalize(if kt (x.ba a a)=0 then(0:Z) else fi (x.s b a) (aP (x.ba a a)) 0)=L at*;generalize(if kt (x.ba a a)=0 then(0:Z) else fi (x.s d a) (aP (x.ba a a)) 0)=M at*;have H:aS K (3*e+2*k+108) (2*k+e+2) 1 (iQ L (x.ba a a) M):=(alT c I J aa aa ab).1.mono aa aa ab;have i:aS K (3*e+2*k+108) (2*k+e+2) 1 (x.s b d):=(g b h d u).mono aa aa ab;have:=(alN c aa i H.neg ab).1.up;exact this.mono aa aa ab
theorem mS.two (h:K=65536) (dg:f<=3) (S:mS K f m x) (am:m<=1) {a c:X} (u:a∈x.rows) (v:c∈x.rows) (U:hU [x.ba a a,x.ba c a,x.ba c c]≠Y 0) {g n:X} (l:g∈x.rows) (C:n∈x.rows):(∀j∈x.lc [a,c],bh (j g)≠2047)/\aS K (kn (m+2)) (jZ (m+2)+f) 1 (cM (x.s g n) (c5 (yk (x.kb [a,c]) (x.lc [a,c]) g n))):=by
 obtain⟨ci,co,cs,cv⟩:=Zl am;obtain⟨k,ad⟩:∃k,k=jZ m+f:=⟨_,bn⟩;obtain⟨e,V⟩:∃e,e=kn m:=⟨_,bn⟩;have t:=S.E1;rw[<-ad,<-V] at t;have r:∀j∈x.rows,∀b∈x.rows,aS K e (k+1) 1 (aP (x.ba j b)):=λj q b B=>(Lu h (t j q b B) aa aa).1;have z:=r a u a u;have p:=r c v a u;have A:=r c v c v;have T:aS K (2*e) (2*k+3) 1 (hU [x.ba a a,x.ba c a,x.ba c c]):=(by have E:=(alT h z A aa aa ab).1;have F:=(alT h p p aa aa ab).1;exact(alN h aa E F.neg ab).1.up.mono aa aa ab);have N:∀g∈x.rows,∀j∈x.rows,∀b∈x.rows,∀i o:eA,aS K e (k+1) 1 i->aS K e (k+1) 1 o->aS K (2*e) (2*k+2) 1 (cM (bk (x.s g j) i) (c5 (bk (x.s g b) o))):=λg l j q b B i o w D=>(by have E:=(alT h (t g l j q) w aa aa ab).1;have F:=(alT h (t g l b B) D aa aa ab).1;exact(alN h aa E F.neg ab).1.up.mono aa aa ab);have O:∀i:eA,aS K (2*e) (2*k+2) 1 i->bh (fi i (hU [x.ba a a,x.ba c a,x.ba c c]) 0)≠2047/\aS K (2*e+2*k+56) (2*k+2*e+3) 1 (aP (fi i (hU [x.ba a a,x.ba c a,x.ba c c]) 0)):=λi w=>(by obtain⟨ax,dl,_⟩:=Sv h w T U aa aa aa;grind);have L:∀g∈x.rows,_:=λg l=>O _ (N g l a u c v _ _ A p);have M:∀g∈x.rows,_:=λg l=>O _ (N g l c v a u _ _ z p);have R:x.lc [a,c]=[λg=>fi (cM (bk (x.s g a) (aP (x.ba c c))) (c5 (bk (x.s g c) (aP (x.ba c a))))) (hU [x.ba a a,x.ba c a,x.ba c c]) 0,
  λg=>fi (cM (bk (x.s g c) (aP (x.ba a a))) (c5 (bk (x.s g a) (aP (x.ba c a))))) (hU [x.ba a a,x.ba c a,x.ba c c]) 0]:=rfl
 have Q:x.kb [a,c]=[x.ba a a,x.ba c a,x.ba c c]:=rfl;rw[R,Q];obtain⟨P,G⟩:=L g l;obtain⟨ce,H⟩:=M g l;obtain⟨c1,I⟩:=L n C;obtain⟨c2,J⟩:=M n C;refine⟨λj q=>?_,?_⟩
 ·rcases fF.1 q with rfl|q
  ·exact P
  simp_all
 have y:∀i d o:Z,aS K (2*e+2*k+56) (2*k+2*e+3) 1 (aP i)->aS K e (k+1) 1 (aP d)->aS K (2*e+2*k+56) (2*k+2*e+3) 1 (aP o)->aS K (5*e+4*k+112) (5*k+4*e+7) 1 (iQ i d o):=λi d o w r D=>
  (alT h (alT h w r aa aa ab).1 D aa aa ab).1.mono aa aa ab
 show aS K (kn (m+2)) (jZ (m+2)+f) 1 (cM (x.s g n) (c5 (cM (cM (cM (iQ _ _ _) (iQ _ _ _)) (iQ _ _ _)) (iQ _ _ _))));have a4:=y _ _ _ G z I;have bl:=y _ _ _ G p J;have bs:=y _ _ _ H p I;have bx:=y _ _ _ H A J;have ap:=(alN h aa a4 bl ab).1;have av:=(alN h aa ap bs ab).1;have a0:=(alN h aa av bx ab).1;have an:aS K (5*e+4*k+112) (5*k+4*e+7) 1 (x.s g n):=(t g l n C).mono aa aa ab;have a3:=((alN h aa an a0.neg ab).1.mono (bc _) (bc _) (ab:1+(1+1+1+1)<=8)).ahe;exact a3.mono aa aa ab
theorem mS.next (i:K=65536) (j:f<=3) (d:mS K f m x) {h:ak9} (s:x.choose=Y h) (B:0<h.length):(x.de h).fin/\mS K f (m+h.length) (x.elim h):=by
 have t:=z7 s;have v:=d.w.elim t;have l:∀{p},p∈x.rows.take x.full->p∈x.rows:=λb=>rG b;have y:=Ih (x:=x) (L:=x.rows.take x.full) (P:=h) (λp b=>l b) s;have C:=d.len;rcases t with rfl|⟨p,rfl,b⟩|⟨p,n,rfl,b,k,D⟩
 ·grind
 ·have b:=l b;have z:=yg (P:=[p]) d.w.nd ac (by grind);have e:∀{a},a∈x.rows.filter (λa=>br (a∉[p]))->a∈x.rows/\m<=2:=λ{a} c=>by
   grind
  refine⟨λr o a c=>?_,v,?_,λa c A q=>?_⟩
  ·obtain⟨i1,g⟩:=e c;rw[gq.1 o];exact(d.one i j g b i1 i1).1
  ·show(x.rows.filter λa=>br (a∉[p])).length+(m+[p].length)<=4;omega
  obtain⟨i1,g⟩:=e c;exact(d.one i j g b i1 (e q).1).2
 have b:=l b;have k:=l k;have z:=yg (P:=[p,n]) d.w.nd (by grind) (by grind);have u:=y.kF bn;have e:∀{a},a∈x.rows.filter (λa=>br (a∉[p,n]))->a∈x.rows/\m<=1:=λ{a} c=>(by grind);refine⟨λr o a c=>?_,v,?_,λa c A q=>?_⟩
 ·obtain⟨i1,g⟩:=e c;exact(d.two i j g b k u i1 i1).1 r o
 ·show(x.rows.filter λa=>br (a∉[p,n])).length+(m+[p,n].length)<=4;omega
 obtain⟨i1,g⟩:=e c;exact(d.two i j g b k u i1 (e q).1).2
theorem mS.run (e:K=65536) (h:f<=3):∀(n:X) {x:a9} {m:X},mS K f m x->∃d a,amc n x=Y (d,a)/\mS K f (m+(a.flatMap aK.a1).length) d
 |0,x,m,c=>⟨x,[],bn,c⟩
 |n+1,x,m,c=>by
  cases g:x.choose with
  |none=>exact absurd g (NR (λo i=>c.fin e h i) _ λo i=>rG i)
  |some b=>
   by_cases j:b=[]
   ·subst j;exact⟨x,[],y3 g,c⟩
   have k:0<b.length:=sV.2 j;obtain⟨p,l⟩:=c.next e h g k;obtain⟨d,a,q,r⟩:=mS.run e h n l;refine⟨d,x.de b::a,?_,?_⟩
   ·simp_all [wH,au]
   have:((x.de b::a).flatMap aK.a1).length=b.length+(a.flatMap aK.a1).length:=(by rw[nS,hI];rfl);grind
theorem Sc (l:K=65536) (n:k<=60000) (a:X->a9) {b d:X}:∀(g:ak9) (x:a9) (f:X),aS K e k f (x.s b d)->(∀c∈g,b∈(a c).rows->d∈(a c).rows->aS K e k (2^c) ((a c).s b d))->f+(g.map λc=>2^c).sum<1048576->aS K e k (f+(g.map λc=>2^c).sum) ((g.foldl (λx c=>x.plus (a c)) x).s b d)
 |[],x,f,h,_,_=>h
 |c::g,x,f,h,m,j=>by
  rw[gL,apM] at j|-;have i:aS K e k (f+2^c) ((x.plus (a c)).s b d):=by
   show aS K e k (f+2^c) (if b∈(a c).rows/\d∈(a c).rows then cM (x.s b d) ((a c).s b d) else x.s b d);split
   ·grind [alN,amE]
   exact h.mono (bc _) (bc _) (Nat.le_add_right _ _)
  have:=Sc l n a g (x.plus (a c)) (f+2^c) i (λp o=>m p (gx _ o)) aa;grind
theorem TN (a:X->bz):∀t,(((bI t).filter a).map λb=>2^b).sum+1<=2^t
 |0=>by simp
 |t+1=>by
  have:=TN a t;rw[jq,oG,jC,apN,nX];have d:(([t].filter a).map λb=>2^b).sum<=2^t:=by
   by_cases c:a t=bp
   ·simp[c]
   grind
  omega
theorem O5 (p:K=65536) {d:X->X->eA} (w:∀i c,aS K 0 5 1 (d i c)) {E:eu} {b:bm eE} (q:iw E b) (y:E.length=n) (ap:n<=4):∀t,t<=b.length->∃o C,iM d b t=Y (o,C)/\∀a,a<t->∀i∈(o.getD a gn).rows,∀c∈(o.getD a gn).rows,aS K (kn (C.flatMap aK.a1).length) (jZ (C.flatMap aK.a1).length+a) 1 ((o.getD a gn).s i c)
 |0,_=>⟨[],[],bn,λa A=>absurd A (oL _)⟩
 |t+1,cs=>by
  obtain⟨f,g,T,N⟩:=O5 p w q y ap t aa;have G:∀i c,c4 (d i c):=λi c=>(w i c).ok p ab ab;obtain⟨i1,z⟩:=vO G q y aa T;have j:=jL.of q y (aa:t<b.length);have H:=z.xv G j;have bx:=Fk q;have B:=z.zY j;have a0:=xw d (λa=>f.getD a gn) t (l:=b);have ce:=λi m=>z.zZ d j (i:=i) m;have bl:=j.C4;have R:∀L∈(hS d b (λa=>f.getD a gn) t).rows,L∉g.flatMap aK.a1:=λL J Q=>by
   rw[a0.1,g0] at J;have M:=fN.1 (B.mem_iff.1 (lT _ (lT _ Q)));rcases J with h|h
   ·grind [aog,aoF,aoj]
   obtain⟨k,F,v,a⟩:=wd.1 h;have:=j.Gt k F v;omega
  have S:∀i∈(hS d b (λa=>f.getD a gn) t).rows,∀c∈(hS d b (λa=>f.getD a gn) t).rows,aS K (kn (g.flatMap aK.a1).length) (jZ (g.flatMap aK.a1).length+t) 1 ((hS d b (λa=>f.getD a gn) t).s i c):=λi _ c _=>by
   have bs:=PU (g.flatMap aK.a1).length;have am:=PV (eJ (g.flatMap aK.a1).length);have co:=TN (λa=>br (gF b a=(t:Z))) t;have a4:2^t<=2^3:=rJ ab aa;refine aS.Sp.1 ((Sc p aa (λa=>f.getD a gn) (e5 b t t) (mu d b (λa=>f.getD a gn) t) 1 ?_ ?_ ?_).mono (bc _) (bc _) ?_)
   ·show aS K _ _ 1 (u7 d b t i c);unfold u7;split
    ·exact(w i c).mono (eJ _) am ab
    exact amd
   ·grind [aS.Sp,By]
   ·grind [e5]
   grind [e5]
  generalize cv:hS d b (λa=>f.getD a gn) t=x at*;have av:(g.flatMap aK.a1++x.rows).Nodup:=iI.2 ⟨(iI.1 (iI.1 (B.nodup_iff.2 nV)).1).1,H.nd,λF O v P e=>R v P (e▸O)⟩;have an:x.rows.length+(g.flatMap aK.a1).length<=4:=by
   have:=av.length_le_of_subset (l₂:=bI n) λi m=>by
    rw[fN];rcases g0.1 m with h|h
    ·have M:=fN.1 (B.mem_iff.1 (lT _ (lT _ h)));omega
    grind
   grind
  obtain⟨u,r,ci,a3⟩:=mS.run p (aa:t<=3) (x.full+1) (⟨H,an,S⟩:mS K t _ x);have I:(g.flatMap aK.a1).length<=((g++r).flatMap aK.a1).length:=(by grind);have U:∀a,a<t->(f++[u]).getD a gn=f.getD a gn:=λa A=>(by rw[ky,ky,qp aa]);have V:(f++[u]).getD t gn=u:=(by grind);refine⟨f++[u],g++r,?_,λa A=>?_⟩
  ·grind [iM]
  rcases cU a t with D|D
  ·rw[U a D];intro i m c ad;have:=Xv I;have:=PV I;exact(N a D i m c ad).mono aa aa ab
  obtain rfl:a=t:=aa;rw[V];have al:((g++r).flatMap aK.a1).length=(g.flatMap aK.a1).length+(r.flatMap aK.a1).length:=(by grind);rw[al];exact a3.E1
end
end
section
def s4 (a:Z):Prop:=fh a/\bh a≠2047/\∀D:X,D=65536->aS D 0 5 1 (aP a)
theorem s4.zero:s4 0:=⟨⟨ab,ab⟩,E9,λD a=>by rw[yG];exact amd⟩
def agn (d:-9<=c) (e:c<=9):s4 (kx (jm c) 0):=by have b:∀D:X,D=65536->aS D 0 4 1 (jm c):=λD a=>(by refine⟨c*2^D,FA aa a,⟨c,by rw[amv]⟩,?_⟩;rw[i7,h3,hy,j6 (2^D)];exact gj _ aa);obtain⟨D,a⟩:∃D:X,D=65536:=⟨_,bn⟩;exact⟨GB _ _,Lv a (b D a) ab,λD a=>(Lu a (b D a) ab ab).1⟩
def aaW (a:fh c):ae (x0 (c,0,())) λb=>s4 b.1:=by
 have e:=a.1;have f:=a.2;unfold x0;dsimp only;refine bA (BC 0 (n:=4) ab ab) ?_;have d:pV 0 4=0:=ab;rw[d];dsimp only;rw[a2 ab,a2 ab,a2 ab];unfold IL;refine bA (y:=(kx (jm (c %19-9)) 0,())) ?_ (bv.2 (agn aa aa));refine ai (y:=c %19) ?_ ?_
 ·unfold jy;rw[au ab,Hl aa]
 dsimp only;rw[cG (x:=c %19) aa aa,cG aa aa];exact ai (aft aa aa) rfl
def aei (i:g.length<=9223372036854775807) (w:a<=4):ae (Ek (g,(a:Z),0,bq,())) λu=>
 ∃(b:X) (e d c f:ala) (h:jS),b<=4/\iW b b e d c/\gM b b e d c/\(∀j∈c,s4 j)/\ff f b/\u=(((b:Z),(b:Z),e,d,c,()),f,h,())/\(wM b b e d c f=0->iw (k3 b (gW (c0 e d c b)) f) h):=by
 unfold Ek;refine bA (BC (a:Z) (n:=6) ab ab) ?_;have q:pV (a:Z) 6<=4:=(by unfold pV;omega);dsimp only;generalize pV (a:Z) 6=b at*;refine bG (UV (P:=s4) (λ_ p=>aaW p) i (aa:b<=5) (aa:b<=5)) ?_;rintro⟨v,_⟩ k;dsimp only at k|-;rw[bP,bN];dsimp only;refine bG (U7 i (n:=b) aa) ?_;rintro⟨f,_⟩ l;dsimp only at l|-;obtain⟨e,d,c,rfl,ax,o,t⟩:=k.ex;have m:=Cw.small (aa:b<=5) (aa:b<=5) ax (λj r=>(o j r).1) t;refine bG (YA aa m i) ?_;rintro _ ⟨h,rfl,x,y,s⟩;exact bv.2 ⟨b,e,d,c,f,h,q,m,ax,o,R8 l,bn,s⟩
theorem afX {a:X->Rat} {b:ak9} (f:e.Perm b):db a e=db a b:=by
 induction f with
 |nil=>rfl
 |cons h _ g=>rw[db,db,g]
 |swap h i e=>
  simp only[db];grind
 |trans _ _ c d=>exact c.trans d
def Tk (b:X->Rat) (c:X->X):∀a:ak9,db b (a.map c)=db (λi=>b (c i)) a
 |[]=>rfl
 |i::a=>by rw[gL,db,db,Tk b c a]
def adX {n:X} (a:ff g n):((bI n).map (hY g)).Perm (bI n):=by
 refine(List.perm_ext_iff_of_nodup (nW.2 (rz (λ{d j} b h f e=>f (a.inj (fN.1 b) (fN.1 h) e)) nV)) nV).2 λi=>?_;rw[eS,fN];constructor
 ·rintro⟨d,b,rfl⟩;exact(a.get (fN.1 b)).2
 intro c;exact⟨g5 g i,fN.2 (a.pos c).1,(a.pos c).2⟩
def Y7 {c:X->X->Rat} {n:X} {g:bm Rat} (u:sP n e g 0) (w:∀a,(∀h,h<n->lf (c h) a n=0)->∀b,b<n->a b=0) (v:mQ d (bI n) f) (A:∀b,b<n->∀j,j<n->d b j=d j b) (z:∀a,l6 d (bI n) a=wA (λh=>lf (c h) a n) e g 0):kL f=(mJ e g).1/\k6 f=(mJ e g).2:=by
 obtain⟨al,o⟩:=v.ok (n:=n) nV (λb i=>fN.1 i) (λb i j x=>A b (fN.1 i) j (fN.1 x));obtain⟨_,s,f2,t,f4,f5⟩:=ZH c u;rw[oI] at al;have k:∀a,iq n a f=iq n a (kh c e g 0):=λa=>(by rw[(o a).1,f2,z]);have q:∀a,(∀m∈f,lf m.2 a n=0)->∀b,b<n->a b=0:=λa l b i=>(o a).2 l b (fN.2 i);have p:∀a,(∀m∈kh c e g 0,lf m.2 a n=0)->∀b,b<n->a b=0:=λa l=>w a λh y=>t a l h aa y;have r:(kh c e g 0).length=n:=(by rw[s];omega);refine⟨?_,?_⟩
 ·rw[<-f4];exact apq (LX al q k) (LX r p λa=>(k a).symm)
 rw[<-f5];exact apq (TW al q k) (TW r p λa=>(k a).symm)
section
variable {n D:X} {ps:bm aK} {F:fy}
def Y6 (u:D=65536) (o:hQ n ps F) (N:n<=5) (s:0<j) (S:∀a d,a<n->d<n->k (hY F.1 a) (hY F.1 d)*j=(nL ps n a d).getD 0) (R:∀a d,a<n->d<n->k a d=k d a) (K:mQ (λa d=>(k a d:Rat)) (bI n) f):(kL f:Z)=(fI ps).2.2/\(k6 f:Z)=(fI ps).1/\(fI ps).1+(fI ps).2.1+(fI ps).2.2=(n:Z):=by
 obtain⟨e,v⟩:∃e:Rat,e=(((2:Z)^D:Z):Rat):=⟨_,bn⟩;have y:0<e:=(by rw[v];exact Lj D);have Q:(0:Rat)<(j:Rat):=anY.2 s;have t:=o.aez u s;have O:=adX o.or;have w:∀h:X->Rat,db h (bI n)=db (λa=>h (hY F.1 a)) (bI n):=λh=>(afX O).symm.trans (Tk h (hY F.1) _);have I:∀b,b<n->cC (fG ps b b)/e=1:=λb r=>(by rw[U3 u,am9];show(((2:Z)^D:Z):Rat)/e=1;rw[<-v];exact ae4 y);have H:∀b a,a<b->b<n->cC (fG ps a b)/e=0:=λb a l r=>(by rw[U4 o l r];exact ae5 e);have A:∀b i,lf (λm=>cC (fG ps (g5 F.1 m) b)/e) i n=db (λa=>i (hY F.1 a)*(cC (fG ps a b)/e)) (bI n):=λb i=>(by rw[J6,w λm=>i m*(cC (fG ps (g5 F.1 m) b)/e)];exact ov λa l=>by rw[o.or.Lc (fN.1 l)]);have L:∀a d,a<n->d<n->((nL ps n a d).getD 0:Rat)*(e*e)=ga (λh=>cC (aP h)) (λb=>cC (fG ps a b)) (λj=>cC (fG ps d j)) ps 0:=λa d l q=>(by obtain⟨ap,E,_,_,ad⟩:=Ld u v o N l q;rw[E];exact ad);obtain⟨U,V⟩:=Y7 (c:=λb m=>cC (fG ps (g5 F.1 m) b)/e) (Mq ps 0 t (by rw[mm];exact o.ok.len)) (λi T m z=>by
  have J:=ahc (c:=λb a=>cC (fG ps a b)/e) I H (λa=>i (hY F.1 a)) (λb r=>by
   rw[J6];exact(A b i).symm.trans (T b r)) (g5 F.1 m) (o.or.pos z).1
  rwa[(o.or.pos z).2] at J) K (λa l d q=>by rw[R a d l q]) (λi=>by
  rw[Sq _ _ ps 0 λj P=>(t j P).two];have M:∀a∈bI n,∀d∈bI n,((k (hY F.1 a) (hY F.1 d):Z):Rat)=ga (λh=>eP ((aP h).getD 0,j)) (λb=>cC (fG ps a b)/e) (λb=>cC (fG ps d b)/e) ps 0:=λa l d q=>(by have l:=fN.1 l;have q:=fN.1 q;have G:(λh=>eP ((aP h).getD 0,j))=λh=>(1/(j:Rat))*cC (aP h):=(by funext h;exact Sz _ _);have x:∀a,(λb=>cC (fG ps a b)/e)=λb=>(1/e)*cC (fG ps a b):=λa=>(by funext b;exact Sz _ _);rw[G,x a,x d,Nr,<-L a d l q,<-S a d l q,oP];exact ae6 Q y);have al:l6 (λa d=>((k a d:Z):Rat)) (bI n) i=l6 (λa d=>((k (hY F.1 a) (hY F.1 d):Z):Rat)) (bI n) (λa=>i (hY F.1 a)):=(by unfold l6;rw[w];refine ov λa l=>?_;rw[w λd=>((k (hY F.1 a) d:Z):Rat)*i d]);rw[al,aeH (C:=λa b=>cC (fG ps a b)/e) M λa=>i (hY F.1 a)];have:(λb=>db (λa=>i (hY F.1 a)*(cC (fG ps a b)/e)) (bI n))=λb=>lf (λm=>cC (fG ps (g5 F.1 m) b)/e) i n:=(by funext b;exact(A b i).symm);rw[this])
 obtain⟨am,an,B⟩:=Tu (g:=λh=>eP ((aP h).getD 0,j)) (λh=>⟨(yW (p:=((aP h).getD 0,j)) s).2.1.trans (y8 _).1.symm,(yW (p:=((aP h).getD 0,j)) s).1.trans (y8 _).2.symm⟩) ps t;rw[o.ok.len] at B;exact⟨by rw[U];exact am,by rw[V];exact an,B⟩
end
def QW {B:X->X->eA} {Q:X->eA} {n:X}:∀t a,a<t->(A1 B Q n a).getD 0<=mC B Q n t
 |0,a,b=>absurd b (oL _)
 |t+1,a,b=>by
  unfold mC;by_cases c:a=t
  ·subst c;split<;>omega
  have:=QW (B:=B) (Q:=Q) (n:=n) t a aa;split<;>omega
def nF (n:X):ala:=(bI n).map λa:X=>(a:Z)
def Y1 {n:X} (e:n<=1000):Ef ((n:Z),())=Y (nF n,()):=by
 unfold Ef;refine bO.1 ?_;dsimp only;refine bG (P:=λb=>b=(nF n,())) ?_ (by rintro _ rfl;exact bv.2 bn);refine bR n (λa c=>c=((a:Z),nF a,())) rfl ?_ ?_
 ·rintro a _ d rfl;dsimp only;rw[a7 (aH (aa:(a:Z)<(n:Z))),bg aa,e3 (by unfold nF;simp;omega),bN];refine bv.2 ?_;show _=_;unfold nF;rw[alG,List.map_append];rfl
 rintro _ rfl;dsimp only;rw[a2 (aD (aa:¬((n:Z)<(n:Z))))];exact bv.2 bn
def Y0 (n:X):ff (nF n) n:=R8 (anf _)
def PK {n:X} (b:a<n):(nF n).getD a 0=(a:Z):=by unfold nF;rw[kr (by simpa using b)];simp
def X5 {n:X} (e:a<n) (d:X->m):(((az (n*n) d).take ((a+1)*n)).drop (a*n))=az n λb=>d (a*n+b):=by
 have g:(a+1)*n<=n*n:=gj _ e;have f:(a+1)*n=a*n+n:=(by rw[jD,h3]);refine ie λb=>?_;rw[pt];rcases cU b n with c|c
 ·rw[rF aa,gV aa,gV c]
 rw[oH (by rw[gu,cI];omega),oH (by rw[cI];exact c)]
def U0 (a4:ala) (n:Z) (d4:a4.length<=9223372036854775807):IM (a4,n,())=Y (bp,()):=by
 obtain⟨D,o⟩:∃D:X,D=65536:=⟨_,bn⟩;unfold IM;refine bO.1 ?_;refine bA (BC n (n:=5) ab ab) ?_;have f9:=FU n (n:=5) ab;dsimp only;generalize pV n 5=co at*;refine bG (aei d4 (aa:co<=4)) ?_;rintro _ ⟨b,k,i,g,f,fp,d3,M,ax,a0,w,rfl,d0⟩;dsimp only;have r:b<=5:=aa;have u:gI b b k i g=0:=kE.2 ⟨ax,λd q=>by
  have:=(a0 g[d] (cL q)).2.1;rwa[<-kr q] at this⟩
 have eq:wM b b k i g f=0:=by
  classical
  unfold wM;rw[ar (ale u),ar (ale bn),au w]
 have L:=d0 eq;have U:=Mv (mR.F1 r u) M u w L;have dl:∀f d e,s4 (mL (c0 k i g b) (oe ((f:ala).getD d 0) (f.getD e 0)) (nE (f.getD d 0) (f.getD e 0))):=λf d e=>aho s4.zero (tI ax a0) _ _;have G:∀f d e,aS D 0 5 1 (gU (c0 k i g b) f d e):=λf d e=>(dl f d e).2.2 D o;have J:∀f d e,aS D 1074 1024 1 (gU (c0 k i g b) f d e):=λf d e=>(G f d e).mono ab ab ab;obtain⟨f7,ge,d1,_⟩:=O5 o (G f) L (vU w) d3 fp.length (bc _);rcases X7 (A:=gU (c0 k i g b) f) (λd e=>kv _) L (vU w) (aa:b<=12) w with z|⟨ps,cs,z,s⟩
 ·rw[O4 bn d1] at z;have:=b3 (λfT:fy×Z×bt=>fT.2.1) z;exact absurd (show(0:Z)=233 from this) ab
 rw[z] at U;refine bA U ?_;generalize pO f ps ((cs:X):Z)=F at*;dsimp only;rw[a2 (by rfl)];have K:∀l,l<b*b->aS D 3222 3072 15 (nL ps b (l %b) (l/b)):=λl ex=>aev o s r ex;have d2:=ad3 o r (J F.1) K (JU s) (Va r M u s.or) (ZD s r);have d7:=Kt (n:=b) o (J F.1) K (b*b) (cf _);generalize d9:mC (gU (c0 k i g b) F.1) (λl=>nL ps b (l %b) (l/b)) b (b*b)=p at*;refine bA d2 ?_;dsimp only;refine bA (P5 s) ?_;dsimp only;refine bA (y:=.inl (((b:Z),(b:Z),k,i,g,()),aA (Y p),((fI ps).1,(fI ps).2.1,(fI ps).2.2,()),())) ?_ ?_
 ·rw[a7 (by rfl),a2 (by rfl)]
 dsimp only;refine bA (Y1 aa) ?_;dsimp only;refine bA (aeU r M u (Y0 b)) ?_;dsimp only;have gc:=sD r;obtain⟨h,x⟩:∃h:X->X->Z,∀d e,gU (c0 k i g b) (nF b) d e=some (h d e):=⟨λd e=>(gU (c0 k i g b) (nF b) d e).getD 0,λd e=>(G (nF b) d e).val⟩;have O:∀d e,aS D 0 5 1 (Y (h d e)):=λd e=>(by rw[<-x];exact G _ d e);have N:∀d e,h d e=h e d:=λd e=>alU (by rw[<-x,<-x,OV]);generalize fn:(((fI ps).1,(fI ps).2.1,(fI ps).2.2,()):Z×Z×Z×bt)=bx;refine bG (P:=λa3=>a3=(aA (Y p),bx,fV b b (λd e=>aA (Y (h d e))),())) ?_ ?_
 ·refine bR b (λd f0=>f0=((d:Z),aA (Y p),bx,((b:Z),(b:Z),k9 (gU (c0 k i g b) (nF b)) b,()),fV d b (λd e=>aA (Y (h d e))),())) rfl ?_ ?_
  ·rintro d _ q rfl;have an:(d+1)*b<=b*b:=gj _ q;have d5:d*b<=(d+1)*b:=gj _ aa;have f3:ay ((d:Z)*(b:Z))=((d*b:X):Z):=by
    rw[<-qj,cG aa aa]
   have f4:ay (((d+1:X):Z)*(b:Z))=(((d+1)*b:X):Z):=(by rw[<-amM,cG aa aa]);have ek:(k9 (gU (c0 k i g b) (nF b)) b).length=b*b:=(by unfold k9;exact cI _ _);dsimp only;rw[a7 (aH (aa:(d:Z)<(b:Z))),show aQ (d:Z)=((d+1:X):Z) from bg aa,f3,f4];refine bA (y:=(d*b,(d+1)*b)) ?_ ?_
   ·rw[FW,FW,aI,aI,ek];unfold hX;simp only[an,d5];simp
   dsimp only;have en:((k9 (gU (c0 k i g b) (nF b)) b).take ((d+1)*b)).drop (d*b)=az b λe=>aA (Y (h d e)):=(by unfold k9;rw[X5 q];refine df λf6 ds=>?_;obtain⟨H,I⟩:=yb (n:=b) (j:=d) ds;rw[H,I,x,N]);rw[en,e3 (by rw[pd];simp;omega),bN];refine bv.2 ?_;show _=_;unfold fV;rw[o3]
  rintro _ rfl;dsimp only;rw[a2 (aD (aa:¬((b:Z)<(b:Z))))];exact bv.2 bn
 rintro _ rfl;dsimp only;obtain⟨ci,f8,c2,ad⟩:=aeQ o (Nat.zero_le D) (m:=b) (n:=b) aa aa (v:=h) (λd e _ _=>by
  obtain⟨S,al,C,t⟩:=O d e;cases al;refine⟨C,?_⟩;rw[Int.pow_zero,Int.mul_one];exact amH o ab ab t)
 obtain rfl:ci=0:=aa;rw[amv] at ad c2;refine bA ad ?_;dsimp only;have el:(0:Z)<2^D:=aoy ab;have av:∀d e,h d e/2^D*2^D=h d e:=λd e=>(by obtain⟨S,al,⟨ce,C⟩,t⟩:=O d e;cases al;rw[amv] at C;rw[C,Int.mul_ediv_cancel _ aa]);have fl:∀d e,d<b->e<b->aF (h d e/2^D).natAbs<=6:=λd e _ _=>(by obtain⟨S,al,_,t⟩:=O d e;cases al;have E:(h d e/2^D).natAbs<=32:=(by refine Nat.le_of_mul_le_mul_right (c:=2^D) ?_ (am5 _);rw[<-i7,av];rw[aoz,Nat.pow_add,Nat.mul_comm] at t;exact t);exact fJ.2 aa);obtain⟨a3,em,T,dg,an,rfl⟩:=afx (a:=λd e=>h d e/2^D) (n:=b) (B:=6) aa ab fl (λd e _ _=>by rw[N d e]) (cx (xq (aa:b-1<=4)) ab);refine bA em ?_;dsimp only;have d8:c4 (Y p):=λS R=>(by cases R;exact amH o ab ab d7);refine bA (Lq d8) ?_;dsimp only;by_cases V:hZ (Y p)=0
 rotate_left
 ·rw[fQ,aD V,a2 (by rfl)];exact bA No (bv.2 bn)
 rw[fQ,aH V,a7 (by rfl)];have d6:p=0:=(by have E:=(y8 (Y p)).1;have c1:=(y8 (Y p)).2;have cv:(Y p).getD 0=p:=rfl;rw[cv] at E c1;omega);have R:∀d e,d<b->e<b->h (hY F.1 d) (hY F.1 e)/2^D*2^D=(nL ps b d e).getD 0:=λd e q am=>(by obtain⟨H,I⟩:=yb (n:=b) (j:=e) q;have ap:=CY am q;obtain⟨ce,f5,_,bl⟩:=I3 (n:=b) (B:=gU (c0 k i g b) F.1) (Q:=λl=>nL ps b (l %b) (l/b)) o (J F.1) (K _ ap);have E:=QW (B:=gU (c0 k i g b) F.1) (Q:=λl=>nL ps b (l %b) (l/b)) (n:=b) (b*b) (e*b+d) ap;rw[f5,d9,d6,sZ] at E;rw[H,I] at bl;obtain⟨fr,fs⟩:=yR s.or q;obtain⟨ft,fz⟩:=yR s.or am;have al:gU (c0 k i g b) F.1 d e=Y (h (hY F.1 d) (hY F.1 e)):=(by rw[<-x];unfold gU;rw[fr,ft,PK fs,PK fz]);rw[al,sZ] at bl;rw[av];omega);obtain⟨f1,f2,gf⟩:=Y6 o s r el R (λd e _ _=>by rw[N d e]) dg;rw[<-fn,f1,f2,(aa:((b-k6 T-kL T:X):Z)=(fI ps).2.1),a7 ac];exact bA No (bv.2 bn)
end
end Go.jN
end
