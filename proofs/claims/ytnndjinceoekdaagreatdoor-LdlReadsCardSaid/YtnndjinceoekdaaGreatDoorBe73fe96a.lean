/-
  Parts of the proof: Pm49, Pm108, Pm117, Pm118, Pm119, Pm120, Pm121, Pm122, Pm123, Pm124, Pm125, Pm126, Pm133, Pm109, Pm110, Pm134, Pm135, Pm136, Pm141: the framework (Fw), pure forms (Dn), plain laws (Pl, Th), calls of functions (Ok).
-/
import Derived.KernelRfl
import Derived.Test.YtnndjinceoekdaaGreatDoorBed7e2a6e

set_option linter.all false
set_option maxHeartbeats 1000000
open _root_ renaming Nat->X,Int->Z,Bool->bA,rfl->bo,List->bn,not_not_intro->ake,congrArg->b4,Option->bw,Unit->bt,cond_true->bH,if_pos->cc,cond_false->bR,if_neg->cw,decide_eq_decide->akd
open Option renaming some->Y,none->bq,bind_some->bM
open Option.some renaming inj->aln
open Nat renaming le_trans->cu,lt_succ_self->akI,zero_mul->al3,one_mul->amX,div_add_mod'->aoa,div_lt_of_lt_mul->am5,pos_of_ne_zero->aob,mod_lt->ak8,sub_zero->alY
open Go.jt.ae renaming eq_iff->bN,aN->bF,steps->bQ,bs->bB,ag->bv
open List renaming getElem_mem->b5,mem_singleton->cB,not_mem_nil->amc,nodup_range->amY,mem_append_left->anx,range->bL,length_append->akE,take_length->cy,length->cA,flatMap->amZ,length_map->b9,getElem_idxOf->an7,mem_flatMap->amd,range_succ->akp,getElem_map->amM,replicate->bJ,take_zero->amS,range'->akv,length_range'->am1,map_append->alJ,append_assoc->akZ,getElem?_eq_getElem->b0,flatMap_nil->an8,length_singleton->am0
open Go.jt.cF renaming mul->am3,kT->aj6,add->am4,zero->an9,rng->akQ
open Decidable renaming not_not->anM,decide->bu
open Go.jt.a7 renaming run->alj
open Go.jt.aR renaming eH->aj7
open List.Pairwise renaming imp->apF,nil->amm
open Bool renaming true->bp,false->br
open Int renaming add_zero->al4,mul_zero->al6
open Rat renaming intCast_add->apr,mul_assoc->aps
noncomputable section
namespace Go.jt
variable{a b:X}{c:aj0}{d:cL}{e:X->X->Rat}{f:ajU}
theorem ads {b d:aj0} (e:g4 a a b c d) (f:fQ a a b c d≠0):sQ (((a:Z),(a:Z),b,c,d,()),())=Y ((0,0,[],[],[],()),fQ a a b c d,()):=by unfold sQ;refine af e.vZ ?_;grind
def ado:sR ((0,0,[],[],[],()),())=Y (([],()),1,()):=by unfold sR;refine af (y:=((1:Z),())) rfl ?_;rfl
def Gw:fa []:=IG []
theorem adw (a:aj0):∃c,q2 (([],()),a,())=Y (([],()),c,()):=by
 rw[KI (λe d=>by cases d)];by_cases b:mI [] a=0
 ·rw[ax b];refine⟨0,?_⟩;have:a=[]:=by
   unfold mI at b;grind
  subst this;rfl
 simp_all
theorem nl.small {c:eA} {i:X->X} {h p:X->X->bA} {e:X->df} (k:c.length=a) (l:fa c) (n:a<=7) (f:nZ c a a b i h) (j:nl c a b i h b p e):(aF b e).length<=a/\∀g∈aF b e,0<g.2.2.1.length/\g.2.2.1.length<=a:=by have t:=f.y7 k l n;refine⟨by grind [cN],λg q=>?_⟩;obtain⟨o,d,rfl⟩:=hG.1 q;rw[cN] at d;rw[jX];obtain⟨v,_,r,_⟩:=j.tF o d;obtain⟨w,u,_⟩:=j.rows k l n f d;have s:=f.m o d;grind [Sj]
theorem Xp {d e:aj0} (z:a<=b) (Q:b<=7) (y:fQ a a d c e=0->lT a d c e) (u:g4 a a d c e) {h L:aj0} (q:L.length<=9223372036854775807):ae (xG (((a:Z),(a:Z),d,c,e,()),h,L,())) (λU=>∃m:iI,U=(m,())/\m.length<=b/\(∀f∈m,0<f.2.2.1.length/\f.2.2.1.length<=b)/\(jF a a d c e h=0->hF (iZ a (fK (c3 d c e a)) h) m)):=by
 classical
 have v:a<=7:=di z Q;by_cases g:fQ a a d c e=0
 ·have t:=(jU.1 g).1;have N:=(jU.1 g).2;have M:=rf t a (bd _);have O:=re t;have V:=(y g).el;have P:=p1 t u.hw;have R:=p1 t (EJ N);have K:=ym M;have J:=yl O;have T:=K6 (rows:=a) (eH:=a) (E:=fK (c3 d c e a)) aa aa aa (λB A=>P B (iF.1 A).1);have S:=Hv K J (λB A=>R B (iF.1 A).1);have x:=RG T S;rw[In K J] at x;by_cases r:e2 h a
  ·refine(IK (x7 r) (x8 a (fK (c3 d c e a)) h) v q (Kz (y g) u g) x (RJ (di v ab) r)).mono ?_;rintro _ ⟨C,H,F,D,I,k,l,rfl⟩;obtain⟨o,i⟩:=l.small (x7 r) (x8 a (fK (c3 d c e a)) h) v k;exact⟨_,bo,di o z,λf j=>⟨(i f j).1,di (i f j).2 z⟩,λ_=>l.Xc (x7 r) (x8 a (fK (c3 d c e a)) h) v k⟩
  have p:∃w,q2 ((kc a (j1 (fK (c3 d c e a))),()),h,())=Y (([],()),w,()):=by
   rw[KI (λm q=>by have:=IL a (j1 (fK (c3 d c e a))) m q;omega)];rw[aw (λs=>?_)]
   ·grind
   grind [AP,mI]
  obtain⟨w,p⟩:=p;refine(IK (G:=[]) (n:=0) rfl Gw (c5 _) q (Kz (y g) u g) x p).mono ?_;rintro _ ⟨C,H,F,D,I,k,l,rfl⟩;obtain⟨o,i⟩:=l.small bo Gw (c5 _) k;refine⟨_,bo,di o (c5 _),λf j=>⟨(i f j).1,di (i f j).2 (c5 _)⟩,λs=>absurd (Gg s).2.2 r⟩
 obtain⟨w,p⟩:=adw h;refine(IK (G:=[]) (n:=0) rfl Gw (c5 _) q (ads u g) ado p).mono ?_;rintro _ ⟨C,H,F,D,I,k,l,rfl⟩;obtain⟨o,i⟩:=l.small bo Gw (c5 _) k;exact⟨_,bo,di o (c5 _),λf j=>⟨(i f j).1,di (i f j).2 (c5 _)⟩,λs=>absurd (Gg s).1 g⟩
def Xo {d e:aj0} (g:a<=5) (k:g4 a a d c e) {f h:aj0} (j:h.length<=9223372036854775807):ae (xG (((a:Z),(a:Z),d,c,e,()),f,h,())) (λl=>∃b:iI,l=(b,())/\b.length<=5/\(∀i∈b,0<i.2.2.1.length/\i.2.2.1.length<=5)/\(jF a a d c e f=0->hF (iZ a (fK (c3 d c e a)) f) b)):=
 Xp g ab (lT.Fw g) k j
section
section
variable {n:X} {st A B o:aj0} {l:bn df}
theorem Xd (j:e2 o n) (q:n<=7) (a:hF (iZ n (fK (c3 st A B n)) o) l):l.length<=7/\(∀d∈l,d.2.2.1.length<=7)/\s5 (iZ n (fK (c3 st A B n)) o) l=0:=by
 have f:=x7 (E:=fK (c3 st A B n)) j;have h:=x8 n (fK (c3 st A B n)) o;have p:=Oq a;refine⟨aa,λd k=>?_,?_⟩
 ·obtain⟨r,c,rfl⟩:=hG.1 k;have b:=jH.of a f c;have e:=b.g;rw[bk c] at e;have m:=b.LY;grind [aln,hC,ie]
 have i:it (iZ n (fK (c3 st A B n)) o)=0:=pU.2 ⟨aa,h⟩;unfold s5;rw[aw (ake i),ax a]
theorem TN (f:lT n st A B) (c:g4 n n st A B) (g:fQ n n st A B=0) (a:e2 o n) (e:hF (iZ n (fK (c3 st A B n)) o) l):vf (((n:Z),(n:Z),st,A,B,()),o,l,())=Y (s4 (h9 (c3 st A B n) o) o l):=by
 classical
 have i:=f.yv;obtain⟨C,h,w⟩:=Xd a i e;have m:=OJ (E:=fK (c3 st A B n)) (cu i ab) a;have d:=TP m (l:=l) aa (λk t=>by have:=h k t;omega);rw[w] at d;have r:=a.1;refine adn e (x7 a) (λu v=>gj _) aa r (λu v p q=>RC c g a p q) ?_;unfold xQ;refine af (FV c aa) ?_;have s:(if fQ n n st A B≠0 then fQ n n st A B else if n≠n then 5 else if e2 o n then 0 else 90)=0:=(by grind);rw[s];dsimp only;rw[aM (by rfl)];refine af (adr f c g a) (af d ?_);dsimp only;rw[aM (by rfl)];refine bN.1 ?_;refine bF (P:=λx=>x=.inl ()) ?_ ?_
 ·refine bQ l.length (λb z=>z=((b:Z),())) rfl ?_ ?_
  ·rintro b _ j rfl;dsimp only;rw[a5,aQ (aJ (aa:(b:Z)<(l.length:Z))),ba aa];refine bB (y:=l[b]) (eR j) ?_;have:=h l[b] (b5 j);rw[aM (aC (show¬ak (l[b]).2.2.1>64 by grind))];grind [bv]
  rintro _ rfl;dsimp only;rw[a5,aM (aC (aa:¬((l.length:Z)<(l.length:Z))))];grind [bv]
 grind [bv]
end
end
structure uu (q:aR):Prop where
 Ep:∀d∈q.d,cS d≠2047
 kR:q.aP.length=2->kw q.d≠Y 0
 zL:∀d∈q.d,c9 d
 Pd:∀a∈q.l,∀i,c9 (a i)
theorem yH (f:a7):∀h:ajZ,(∀c∈(f.hu h).d,c9 c)/\∀b∈(f.hu h).l,∀g,c9 (b g)
 |[]=>⟨λc a=>absurd a (by show c∉([]:aj0);simp),λb e=>absurd e (by show b∉([]:bn (X->Z));simp)⟩
 |[p]=>⟨λc a=>by rw[fg.1 (show c∈[_] from a)];exact wc _ _,λb e g=>by
  rw[cB.1 (show b∈[_] from e)];dsimp only;split
  ·exact⟨ab,ab⟩
  exact Bv _⟩
 |[p,r]=>⟨λc a=>by
  have a:c∈[f.gw p p,f.gw r p,f.gw r r]:=a;simp only[fG,amc,or_false] at a;rcases a with rfl|rfl|rfl<;>exact wc _ _,λb e g=>by
  have e:b∈[_,_]:=e;simp only[fG,amc,or_false] at e;grind [Bv]⟩
 |_::_::_::_=>⟨λc a=>absurd a (by show c∉([]:aj0);simp),λb e=>absurd e (by show b∉([]:bn (X->Z));simp)⟩
theorem OF {v:X->Z} {p:X} {R:ajZ}:∀{l:ajZ} {a:Z×ajV},(∀b,a.2=Y b->b∈R/\v b=a.1)->(∀b∈l,b∈R)->∀b,(fS v p l a).2=Y b->b∈R/\v b=(fS v p l a).1
 |[],_,d,_,b,c=>d b c
 |j::l,a,d,f,b,c=>by rw[fS] at c|-;refine OF ?_ (λg e=>f g (g3 _ e)) b c;grind
theorem Wd {b a c d:Z} (h:(a.natAbs:Z)≠0) (g:¬41*((a.natAbs:Z)*a.natAbs)<=64*((b.natAbs:Z)*d)) (i:¬41*d<=64*(c.natAbs:Z)):b*c≠a*a:=by intro f;have e:(b.natAbs:Z)*c.natAbs=(a.natAbs:Z)*a.natAbs:=(by have:=b4 Int.natAbs f;rw[ub,ub] at this;omega);rw[<-e] at g;have j:(b.natAbs:Z)*(64*(c.natAbs:Z))<=(b.natAbs:Z)*(41*d):=mR aa aa;grind
theorem Hd {c:a7} (e:cS (c.gw a b)≠2047):∃d,bj (c.gw a b)=Y d/\c.av a b=(d.natAbs:Z):=⟨_,Fx e,by grind [Fx,a7.av]⟩
theorem Wc {d b e h f i:Z} (r:cS d≠2047) (l:cS b≠2047) (s:cS e≠2047) (o:bj d=Y h) (p:bj b=Y f) (q:bj e=Y i) (c:kw [d,b,e]=Y 0):h*i=f*f:=by obtain⟨g,a⟩:∃g:X,g=65536:=⟨_,bo⟩;obtain⟨u,z,B,w,ao,j,m,y⟩:=am3 a (aj6 a r) (aj6 a s) ab ab ab;obtain⟨v,A,C,x,k,f2,n,f4⟩:=am3 a (aj6 a l) (aj6 a l) ab ab ab;have t:=(am4 a ab u v.neg ab).2;rw[o] at ao;rw[q] at j;rw[p] at k f2;cases ao;cases j;cases k;cases f2;have c:gO (fD (bj d) (bj e)) (jo (fD (bj b) (bj b)))=Y 0:=c;rw[t,m,n] at c;have c:w+-x=0:=gb c;grind
theorem MZ {b:a7}:∀{n k:ajZ},(∀p∈n,p∈b.rows)->b.iU n=Y k->uu (b.hu k)
 |[],k,_,c=>by rw[a7.iU] at c;cases c;exact⟨λi e=>absurd e (by show i∉([]:aj0);simp),λc=>absurd c (by show¬(0=2);decide),(yH b _).1,(yH b _).2⟩
 |p::n,k,u,c=>by
  rw[a7.iU] at c;split at c
  ·cases c
  rename_i f;have f:=anM.1 f;have q:=u p ac;have I:∀g,g∈b.rows->b.fin g->uu (b.hu [g]):=λg r C=>⟨λi e=>by
   rw[fg.1 (show i∈[_] from e)];exact C g r,λc=>absurd c (by show¬(1=2);decide),(yH b _).1,(yH b _).2⟩
  split at c
  ·grind
  rename_i o;split at c
  ·grind
  rename_i d E;obtain⟨h,s⟩:=OF (R:=b.rows) (l:=b.rows) (a:=(0,bq)) (v:=λw=>b.av w p) (p:=p) ac (λw D=>D) d E;split at c
  ·exact MZ (λg r=>u g (g3 _ r)) c
  split at c
  ·cases c
  rename_i j;have j:=anM.1 j;split at c
  ·grind
  rename_i m;split at c
  ·grind
  rename_i t;cases c;refine⟨λi e=>?_,λ_ e=>?_,(yH b _).1,(yH b _).2⟩
  ·have e:i∈[b.gw p p,b.gw d p,b.gw d d]:=e;simp only[fG,amc,or_false] at e;rcases e with rfl|rfl|rfl
   ·exact f p q
   ·exact f d h
   exact j d h
  obtain⟨F,x,y⟩:=Hd (f p q);obtain⟨G,G0,bg⟩:=Hd (f d h);obtain⟨H,z,A⟩:=Hd (j d h);have s:b.av d p=(b.h1 p).1:=s;rw[<-s] at o m;rw[bg] at o m;rw[y] at m;rw[A] at t;exact Wd (λB=>o (.inl B)) m t (Wc (f p q) (f d h) (j d h) x G0 z e)
theorem Sf:∀{n:X} {d f:a7} {e:bn aR},alj n d=Y (f,e)->∀c∈e,uu c
 |0,d,f,e,a,c,b=>by grind [alj]
 |n+1,d,f,e,a,c,b=>by
  match hc:d.choose with
  |none=>grind [Gc]
  |some []=>
   grind [Gb]
  |some (i::h)=>
   rw[BM hc ac] at a;split at a
   case isFalse=>cases a
   cases g:alj n (d.elim (i::h)) with
   |none=>grind
   |some j=>
    rw[g] at a;cases a;rcases fG.1 b with rfl|b
    ·exact MZ (λc b=>Co b) hc
    exact Sf g c b
def oX:ajZ->bn aR->Prop
 |_,[]=>True
 |D,a::c=>(∀b∈a.rows,b∉D/\b∉a.aP)/\oX (D++a.aP) c
theorem oX.app:∀{D:ajZ} {b a:bn aR},oX D b->oX (D++b.flatMap aR.aP) a->oX D (b++a)
 |D,[],a,_,c=>by grind
 |D,e::b,a,c,d=>⟨c.1,c.2.app (by rwa[k6])⟩
theorem Se:∀{n:X} {b i:a7} {f:bn aR} {d:ajZ},lU b->(∀c∈b.rows,c∉d)->alj n b=Y (i,f)->oX d f
 |0,b,i,f,d,_,_,a=>by rw[alj] at a;cases a;trivial
 |n+1,b,i,f,d,m,p,a=>by
  match hc:b.choose with
  |none=>grind [Gc]
  |some []=>
   rw[Gb hc] at a;cases a;trivial
  |some (h::g)=>
   rw[BM hc ac] at a;split at a
   case isFalse=>cases a
   cases e:alj n (b.elim (h::g)) with
   |none=>grind
   |some q=>
    rw[e] at a;cases a;have j:∀c∈b.rows.filter (λo=>bu (o∉h::g)),c∉d/\c∉h::g:=λc e=>(by grind);refine⟨j,Se (m.elim (Hw hc)) (λc e=>?_) e⟩;obtain⟨k,l⟩:=j c e;exactλa=>(ha.1 a).elim k l
theorem N9 {d:X->X->ajU} (h:∀C D,c8 (d C D)) {p:eA} {b:bn df} {H:X} (k:hF p b) (j:p.length=H):∀{t:X},t<=b.length->∀{g:bn a7} {e:bn aR},ka d b t=Y (g,e)->(∀c∈e,uu c)/\oX [] e
 |0,_,g,e,a=>by rw[ka] at a;cases a;exact⟨λc n=>(by cases n),trivial⟩
 |t+1,K,g,e,a=>by
  rw[ka] at a;cases m:ka d b t with
  |none=>grind
  |some I=>
   obtain⟨q,L⟩:=I;obtain⟨i1,s⟩:=x1 h k j aa m;obtain⟨F,G⟩:=N9 h k j aa m;have i:=jH.of k j (aa:t<b.length);rw[m] at a;dsimp only[bM] at a;have z:=s.zB h i;have A:=s.zA i;have B:=zC d (λf=>q.getD f iX) t (l:=b);generalize my d b (λf=>q.getD f iX) t=w at*;cases o:alj (w.full+1) w with
   |none=>grind
   |some c=>
    rw[o] at a;cases a;refine⟨λc n=>(ha.1 n).elim (F c) (Sf o c),G.app (Se z (λM v u=>?_) o)⟩;rw[jh] at u;rw[B.1,ha] at v;have J:=jJ.1 (A.mem_iff.1 (n5 _ (n5 _ u)));rcases v with r|r
    ·grind [List.nodup_append,amY,anx]
    obtain⟨E,x,y,f⟩:=yq.1 r;have:=i.FW E x y;omega
section
def cK (ps:bn aR) (a:X):X:=((ps.take a).flatMap aR.aP).length
def gv (ps:bn aR) (a:X):X:=((ps.take a).flatMap aR.d).length
structure hb (n:X) (ps:bn aR):Prop where
 perm:(ps.flatMap aR.aP).Perm (bL n)
 hu:∀q∈ps,wT (bL n) q
 k:∀q∈ps,uu q
 EN:oX [] ps
theorem mf {c:Type} {b:bn c} (d:a<b.length):b.take (a+1)=b.take a++[b[a]]:=by simp_all
theorem Ix {d f:Type} (c:d->bn f) {b:bn d} (e:a<b.length):((b.flatMap c).take ((b.take (a+1)).flatMap c).length).drop ((b.take a).flatMap c).length=c b[a]:=by
 have g:b.flatMap c=((b.take a).flatMap c++c b[a])++(b.drop (a+1)).flatMap c:=by
  conv=>lhs;rw[<-jK (a+1) b,n2,mf e,n2]
  simp
 grind [List.take_left,List.drop_left,mf]
theorem vt {d f:Type} (b:d->bn f) {c:bn d} {j:X} (e:a<c.length) (h:j<(b c[a]).length):(c.flatMap b)[((c.take a).flatMap b).length+j]?=Y (b c[a])[j]:=by have g:=Ix b e;grind
theorem oX.at {c:ajZ} {ps:bn aR} (d:oX c ps):∀{b:X} (f:b<ps.length),∀a∈ps[b].rows,a∉c++(ps.take b).flatMap aR.aP/\a∉ps[b].aP:=by
 induction ps generalizing c with
 |nil=>grind
 |cons h ps g=>
  intro b f a e;cases b with
  |zero=>simpa using d.1 a e
  |succ b=>
   have:=g d.2 (b:=b) (by grind) a e;grind
section
variable {n:X} {ps:bn aR}
theorem ru (b:a<ps.length):cK ps (a+1)=cK ps a+ps[a].aP.length:=by grind [mf,akE,cK]
theorem HG (b:a<ps.length):gv ps (a+1)=gv ps a+ps[a].d.length:=by grind [mf,akE,gv]
theorem E2:cK ps ps.length=(ps.flatMap aR.aP).length:=by grind [cy,cK]
theorem HF:gv ps ps.length=(ps.flatMap aR.d).length:=by grind [cy,gv]
theorem hb.len (a:hb n ps):(ps.flatMap aR.aP).length=n:=by rw[a.perm.length_eq,pG]
def hb.gk (b:hb n ps) (c:a<ps.length):(ps[a].aP.length=1\/ps[a].aP.length=2)/\ps[a].d.length=2*ps[a].aP.length-1/\ps[a].l.length=ps[a].aP.length:=
 have:=b.hu _ (cG c)
 ⟨this.at1,this.dl,this.len⟩
theorem hb.I9 (a:hb n ps):∀{b:X},b<=ps.length->cK ps b<=n/\b<=cK ps b/\gv ps b+b=2*cK ps b:=by
 intro b e;refine⟨?_,?_⟩
 ·have c:=b4 cA (b4 (amZ aR.aP) (jK b ps));rw[n2,hW,a.len] at c;grind [cK]
 induction b with
 |zero=>exact⟨bd _,bo⟩
 |succ b d=>
  obtain⟨i1,f⟩:=d aa;obtain⟨g,h,_⟩:=a.gk (aa:b<ps.length);grind [ru,HG]
def hb.vC (b:hb n ps) (c:a<ps.length):cK ps a+ps[a].aP.length<=n:=by rw[<-ru c];exact(b.I9 aa).1
def hb.M4 (b:hb n ps):∀{a:X},a<=ps.length->((ps.take a).flatMap aj7).length=cK ps a:=by
 intro a d
 induction a with
 |zero=>rfl
 |succ a c=>
  rw[mf aa,n2,hW,c aa,ru aa,<-(b.gk (aa:a<ps.length)).2.2];simp[aj7]
def hb.call (a:hb n ps):(ps.flatMap aj7).length=n:=by have:=a.M4 (bd ps.length);rw[hm,E2,a.len] at this;omega
theorem hb.xk (c:hb n ps) (d:a<ps.length) (g:b<ps[a].aP.length):∃e∈ps[a].l,(ps.flatMap aj7)[cK ps a+b]?=Y (ps[a].rows,e):=by have h:=(c.gk d).2.2;have f:=vt aj7 d (j:=b) (by grind [b9,aj7]);rw[c.M4 aa] at f;grind [b5,aj7]
theorem hb.after (c:hb n ps) (d:a<ps.length) (e:b∈ps[a].rows):cK ps a+ps[a].aP.length<=(ps.flatMap aR.aP).idxOf b/\(ps.flatMap aR.aP).idxOf b<n:=by have g:=(c.hu _ (cG d)).sub b e;have i:=c.perm.mem_iff.2 g;obtain⟨f,f2⟩:=c.EN.at d b e;rw[jh] at f;refine⟨?_,by rw[<-c.len];grind⟩;rw[<-ru d];have h:ps.flatMap aR.aP=(ps.take (a+1)).flatMap aR.aP++(ps.drop (a+1)).flatMap aR.aP:=(by rw[<-n2,jK]);have j:b∉(ps.take (a+1)).flatMap aR.aP:=(by grind [mf]);simp_all [List.idxOf_append,aw,cK]
theorem hb.inj (c:hb n ps) (e:a<n) (f:b<n) (h:(ps.flatMap aR.aP).idxOf a=(ps.flatMap aR.aP).idxOf b):a=b:=by have d:=c.perm.mem_iff.2 (jJ.2 e);have g:=c.perm.mem_iff.2 (jJ.2 f);have ao:=an7 (GI.2 d);grind
theorem hb.h2 (d:hb n ps) (i:a<ps.length) (c:X->Z):(gx (λg=>(ps.flatMap aR.aP).idxOf g) (ps[a].rows,c)).Pairwise (λb h=>b<h)/\∀b∈gx (λg=>(ps.flatMap aR.aP).idxOf g) (ps[a].rows,c),((cK ps a+ps[a].aP.length:X):Z)<=b/\b<(n:Z):=by
 have e:=d.hu _ (cG i);constructor
 ·unfold gx;rw[qE];refine apF (R:=λc a=>(ps.flatMap aR.aP).idxOf c<(ps.flatMap aR.aP).idxOf a) (λ{c a} d=>Int.ofNat_lt.2 d) (SJ amm (λc k=>by cases k) ?_);refine Cm ?_ e.nd;intro b h f o m j;exact m (d.inj (jJ.1 (e.sub b f)) (jJ.1 (e.sub h o)) j)
 intro b f;obtain⟨r,l,rfl⟩:=fe.1 f;obtain⟨p,q⟩:=d.after i ((Gh _ _).mem_iff.1 l);grind
end
theorem Vs (c:ih->aj0) {b:bn ih} (d:a<=b.length):(lH c b).getD a 0=(((b.take a).flatMap c).length:Z):=by grind [List.getElem?_range,lH]
theorem MQ (b:ih->aj0) (a:bn ih):(lH b a).length=a.length+1:=by grind [lH]
theorem Ho (c:ih->aj0) {b:bn ih} (d:a<b.length):((b.take (a+1)).flatMap c).length=((b.take a).flatMap c).length+(c b[a]).length:=by grind [mf,akE]
theorem MP (a:ih->aj0) {cs:bn ih} (b:X):((cs.take b).flatMap a).length<=(cs.flatMap a).length:=by have c:=b4 cA (b4 (amZ a) (jK b cs));grind
theorem adv {st:aj0} {n m:X} (o:n<=1000000) (e:st.length=n+1) (f:st.getD 0 0=0) (g:st.getD n 0=(m:Z)) (h:∀b,b<n->st.getD b 0<=st.getD (b+1) 0):Ef (st,(n:Z),(m:Z),())=Y (bp,()):=by
 unfold Ef;refine bN.1 ?_;dsimp only;have d:aj st 0=Y 0:=(fR (l:=st) (i:=0) aa).trans (by rw[f]);refine bF (P:=λc=>c=.inl ()) ?_ ?_
 ·rw[a5,ba aa,e,aQ ac,d,aI,aQ (by rfl),fR aa,g,aI,aM ac];grind [bv]
 rintro _ rfl;dsimp only;refine bF (P:=λc=>c=.inl ()) ?_ (by grind [bv]);refine bQ n (λa k=>k=((a:Z),())) rfl ?_ ?_
 ·rintro a _ j rfl;have:=h a j;dsimp only;rw[aQ (aJ (aa:(a:Z)<(n:Z))),ba aa,fR aa,bM,fR aa,bM,aM (aC aa)];grind [bv]
 rintro _ rfl;dsimp only;rw[aM (aC (aa:¬((n:Z)<(n:Z))))];grind [bv]
end
section
def e2.of {o:aj0} {n:X} (a:c.Perm o) (b:e2 o n):e2 c n:=
 ⟨a.length_eq.trans b.1,λe d=>b.2.1 e (a.mem_iff.1 d),a.nodup_iff.2 b.2.2⟩
section
variable {n:X} {ps:bn aR} {o:aj0}
def hb.order (d:hb n ps) (b:e2 o n):e2 ((ps.flatMap aR.aP).map λa=>o.getD a 0) n:=by refine b.of ((d.perm.map _).trans ?_);have c:(bL n).map (λa=>o.getD a 0)=o:=wJ (by rw[eM,pG,b.1]) λg f e=>(by rw[n4,List.getElem_range,iY e]);rw[c]
structure hk (n:X) (ps:bn aR) (F:cL):Prop where
 ok:hb n ps
 or:e2 F.1 n
 oQ:F.2.1.length=ps.length
 gk:∀b (OM:b<ps.length),aj F.2.1 (b:Z)=Y (ps[b].aP.length:Z)
 q7:F.2.2.1=ps.flatMap aR.d
 yV:F.2.2.2.1.length=n+1
 st:∀j,j<=n->aj F.2.2.2.1 (j:Z)=Y ((((ps.flatMap aj7).take j).flatMap (gx λp=>(ps.flatMap aR.aP).idxOf p)).length:Z)
 h2:F.2.2.2.2.1=(ps.flatMap aj7).flatMap (gx λp=>(ps.flatMap aR.aP).idxOf p)
 ni:F.2.2.2.2.2.1=(ps.flatMap aj7).flatMap (ku λp=>(ps.flatMap aR.aP).idxOf p)
 del:0<=F.2.2.2.2.2.2.1
 nM:n<=12
def hb.Oc (a:hb n ps) (e:n<=12) (f:e2 o n) (del:X):hk n ps (p3 o ps (del:Z)):=by
 refine⟨a,a.order f,?_,λb c=>?_,bo,?_,λg d=>?_,bo,bo,Int.ofNat_nonneg _,e⟩
 ·show(ps.map _).length=_;rw[eM]
 ·show aj (ps.map λh=>(h.aP.length:Z)) (b:Z)=_;rw[eR (by rw[eM];exact c),n4]
 ·show(lH _ _).length=_;rw[MQ,a.call]
 show aj (lH _ _) (g:Z)=_;rw[fR (by rw[MQ,a.call];omega),Vs _ (by rw[a.call];exact d)]
variable {F:cL}
def hk.small (b:hk n ps F):F.1.length=n/\F.2.2.2.2.1.length<=144/\F.2.2.2.2.2.1.length=F.2.2.2.2.1.length/\ps.length<=n/\F.2.2.1.length<=2*n:=by
 have f:=b.ok.call;have p:∀a∈ps.flatMap aj7,a.1.length<=12:=λa f=>(by obtain⟨k,m,f⟩:=amd.1 f;obtain⟨t,_,rfl⟩:=fe.1 f;have:=(b.ok.hu k m).nd.length_le_of_subset (b.ok.hu k m).sub;rw[pG] at this;have:=b.nM;show k.rows.length<=12;omega);have q:∀{cs:bn ih} {d:Type} (c:ih->bn d),(∀a∈cs,(c a).length=a.1.length)->(∀a∈cs,a.1.length<=12)->(cs.flatMap c).length<=12*cs.length:=by
  intro cs d c e l
  induction cs with
  |nil=>exact bd _
  |cons a cs i=>
   have:=i (λg h=>e g (g3 _ h)) (λg h=>l g (g3 _ h));have:=e a ac;have:=l a ac;rw[r9,hW,jf];omega
 have r:∀{cs:bn ih} {d o:Type} (c:ih->bn d) (j:ih->bn o),(∀a,(c a).length=(j a).length)->(cs.flatMap c).length=(cs.flatMap j).length:=by
  intro cs d o c j e
  induction cs with
  |nil=>rfl
  |cons a cs i=>rw[r9,r9,hW,hW,e,i]
 have v:=q (cs:=ps.flatMap aj7) (gx λs=>(ps.flatMap aR.aP).idxOf s) (λa _=>by unfold gx;rw[eM,BV]) p;have w:=b.ok.I9 (bd ps.length);have u:=b.nM;refine⟨b.or.1,by rw[b.h2];omega,?_,aa,?_⟩
 ·rw[b.ni,b.h2];exact r _ _ λa=>by unfold gx ku;rw[eM,eM]
 rw[b.q7,<-HF];omega
structure Ty (F:cL) (k n lo:X) (L:aj0):Prop where
 len:lo+L.length<=F.2.2.2.2.1.length
 get:∀t (pc:t<L.length),aj F.2.2.2.2.1 ((lo+t:X):Z)=Y L[t]
 aeH:(F.2.2.2.2.1.take (lo+L.length)).drop lo=L
 asc:∀t (pc:t+1<L.length),L[t]<L[t+1]
 rng:∀t (pc:t<L.length),(k:Z)<=L[t]/\L[t]<(n:Z)
def hk.xk (c:hk n ps F) {b f:X} (g:b<ps.length) (r:f<ps[b].aP.length):∃l m,Ty F (cK ps b+ps[b].aP.length) n l m/\aj F.2.2.2.1 ((cK ps b+f:X):Z)=Y (l:Z)/\aj F.2.2.2.1 ((cK ps b+f+1:X):Z)=Y ((l+m.length:X):Z):=by obtain⟨o,_,h⟩:=c.ok.xk g r;obtain⟨i,h⟩:=hN.1 h;have u:=c.ok.vC g;have q:=Ix (gx λa=>(ps.flatMap aR.aP).idxOf a) i;have k:=Ho (gx λa=>(ps.flatMap aR.aP).idxOf a) i;have v:=MP (gx λa=>(ps.flatMap aR.aP).idxOf a) (cs:=ps.flatMap aj7) (cK ps b+f+1);obtain⟨s,t⟩:=c.ok.h2 g o;have p:=λe d=>vt (gx λa=>(ps.flatMap aR.aP).idxOf a) i (j:=e) d;rw[h] at q k p;refine⟨_,gx (λa=>(ps.flatMap aR.aP).idxOf a) (ps[b].rows,o),⟨by rw[c.h2];omega,λe d=>?_,by rw[c.h2,<-k];exact q,λe d=>hY.1 s _ _ aa d aa,λe d=>t _ (cG _)⟩,c.st _ aa,by rw[c.st _ aa,k]⟩;rw[c.h2];exact fu (p e d)
def aem (a:hk n ps F):Ek (F,())=Y (bp,()):=by
 obtain⟨l,N,O,Q,R⟩:=a.small;have H:=a.nM;unfold Ek;refine bN.1 ?_;dsimp only;refine bF (P:=λq=>q=.inl ()) ?_ ?_
 ·have E:=adv (st:=F.2.2.2.1) (n:=n) (m:=F.2.2.2.2.1.length) aa a.yV (by
   have:=a.st 0 aa;rw[fR (by rw[a.yV];omega)] at this;exact gb this) (by
   have:=a.st n aa;rw[fR (by rw[a.yV];omega)] at this;rw[gb this,a.h2,<-a.ok.call,hm]) (λt C=>by
   have ao:=a.st t aa;have j:=a.st (t+1) aa;rw[fR (by rw[a.yV];omega)] at ao j;rw[gb ao,gb j,Ho _ (by rw[a.ok.call];exact C)];omega)
  have:=a.del;rw[aQ (by rw[aC aa];rfl),a5,l,a5];refine bB E ?_;dsimp only;rw[aM (by rfl)];exact bv.2 bo
 rintro _ rfl;dsimp only;refine bF (P:=λq=>q=.inl ((n:Z),(F.2.2.1.length:Z),())) ?_ ?_
 ·refine bQ ps.length (λb h=>h=((cK ps b:Z),(gv ps b:Z),(b:Z),())) rfl ?_ ?_
  ·rintro b _ f rfl;obtain⟨S,T,_⟩:=a.ok.gk f;have J:=a.ok.vC f;have K:=a.ok.I9 (b:=b) aa;have r:=a.gk b f;have D:(ps[b].aP.length:Z)=1\/(ps[b].aP.length:Z)=2:=aa;dsimp only;rw[a5,a.oQ,aQ (aJ (aa:(b:Z)<(ps.length:Z))),ba aa];refine bB (y:=.inl (((cK ps (b+1):X):Z),((gv ps (b+1):X):Z),())) ?_ (bv.2 bo);refine af (y:=.inl ()) ?_ ?_
   ·have k:(bif bu (au ((cK ps b:Z)+(ps[b].aP.length:Z))>ak F.1) then(Y (.inr (.inr (.inr (.inr (br,()))))):bw (bt⊕(mX⊕w1))) else Y (.inl ()))=Y (.inl ()):=by
     rw[a5,l,cD aa aa,aM (aC aa)]
    rw[r];simp only[aI];rcases D with o|o
    ·rw[o] at k|-;rw[aM (by rfl)];exact k
    rw[o] at k|-;rw[aQ (by rfl),aQ (by rfl)];exact k
   dsimp only;rw[r];simp only[bM];have u:au (au ((cK ps b:Z)+(ps[b].aP.length:Z))-1)=((cK ps b+ps[b].aP.length-1:X):Z):=(by rw[cD (x:=(cK ps b:Z)+(ps[b].aP.length:Z)) aa aa,cD aa aa];omega);rw[u];refine af (y:=.inl ()) ?_ ?_
   ·refine bN.1 ?_;refine bQ ps[b].aP.length (λp h=>h=(((cK ps b+p:X):Z),())) rfl ?_ ?_
    ·rintro p _ B rfl;obtain⟨e,i,g,v,w⟩:=a.xk f B;have I:=g.len;dsimp only;rw[aQ (aJ (aa:((cK ps b+p:X):Z)<=((cK ps b+ps[b].aP.length-1:X):Z))),ba aa,v,w];simp only[bM];refine bB (y:=.inl ()) ?_ (bv.2 bo);refine bN.1 ?_;refine bQ i.length (λc h=>h=(((e+c:X):Z),())) rfl ?_ ?_
     ·rintro c _ s rfl;obtain⟨L,M⟩:=g.rng c s;dsimp only;rw[aQ (aJ (aa:((e+c:X):Z)<((e+i.length:X):Z))),ba aa];refine bB (y:=.inl ()) ?_ (bv.2 bo);rw[g.get c s];simp only[bM];rw[aQ (by rw[aC aa];rfl),a5,l,aQ (by rw[aC aa];rfl)];by_cases G:c=0
      ·rw[aM (by rw[aC aa];rfl)]
      have z:=g.asc (c-1) aa;have A:=g.get (c-1) aa;rw[aQ (by rw[aJ aa];rfl),show au (((e+c:X):Z)-1)=((e+(c-1):X):Z) by rw[cD aa aa];omega,A];simp only[aI];simp only[(aa:c-1+1=c)] at z;rw[aM (aC aa)]
     rintro _ rfl;dsimp only;rw[aM (aC (aa:¬((e+i.length:X):Z)<((e+i.length:X):Z)))];exact bv.2 bo
    rintro _ rfl;dsimp only;rw[aM (aC (aa:¬((cK ps b+ps[b].aP.length:X):Z)<=((cK ps b+ps[b].aP.length-1:X):Z)))];exact bv.2 bo
   dsimp only;rw[ru f,HG f,ba aa];refine b4 Y (b4 Sum.inl ?_);have j:au (au ((gv ps b:Z)+au (2*(ps[b].aP.length:Z)))-1)=((gv ps b+ps[b].d.length:X):Z):=(by rw[cD (x:=2*(ps[b].aP.length:Z)) aa aa,cD (x:=(gv ps b:Z)+2*(ps[b].aP.length:Z)) aa aa,cD aa aa];omega);rw[j,(aa:cK ps b+ps[b].aP.length-1+1=cK ps b+ps[b].aP.length)]
  rintro _ rfl;dsimp only;rw[a5,a.oQ,aM (aC (aa:¬((ps.length:Z)<(ps.length:Z)))),E2,HF,a.ok.len,<-a.q7];exact bv.2 bo
 rintro _ rfl;dsimp only;rw[a5,a5,l,aQ ac];exact bv.2 ac
end
end
section
def md (a:aR):Z×Z×Z:=
 if a.aP.length=2/\kn (kw a.d)<0 then(1,0,1) else if kn (bj (a.d.getD 0 0))<0 then(a.aP.length,0,0) else if kn (bj (a.d.getD 0 0))>0 then(0,0,a.aP.length) else(0,1,0)
def fE (b:bn aR):Z×Z×Z:=((b.map λa=>(md a).1).sum,(b.map λa=>(md a).2.1).sum,(b.map λa=>(md a).2.2).sum)
def K1 {b:bn aR} (c:a<b.length):fE (b.take (a+1))=((fE (b.take a)).1+(md b[a]).1,(fE (b.take a)).2.1+(md b[a]).2.1,(fE (b.take a)).2.2+(md b[a]).2.2):=by unfold fE;rw[mf c];simp only[j4,List.sum_append,hX,qD,List.sum_cons,List.sum_nil,al4]
section
variable {n:X} {ps:bn aR} {F:cL}
def aeB {a:aR} (b:a.aP.length=1\/a.aP.length=2):0<=(md a).1/\(md a).1<=2/\0<=(md a).2.1/\(md a).2.1<=2/\0<=(md a).2.2/\(md a).2.2<=2:=by
 unfold md;split
 ·decide
 split
 ·dsimp only;omega
 split
 ·dsimp only;omega
 decide
def hk.Su (b:hk n ps F):∀{a:X},a<=ps.length->0<=(fE (ps.take a)).1/\(fE (ps.take a)).1<=2*a/\0<=(fE (ps.take a)).2.1/\(fE (ps.take a)).2.1<=2*a/\0<=(fE (ps.take a)).2.2/\(fE (ps.take a)).2.2<=2*a:=by
 intro a d
 induction a with
 |zero=>simp[fE]
 |succ a c=>
  have:=c aa;have:=aeB (b.ok.gk (aa:a<ps.length)).1;rw[K1 aa];dsimp only;omega
def hk.diag (b:hk n ps F) (c:a<ps.length):(F.2.2.1.take (gv ps (a+1))).drop (gv ps a)=ps[a].d/\gv ps (a+1)<=F.2.2.1.length/\gv ps (a+1)=gv ps a+ps[a].d.length/\aj F.2.2.1 (gv ps a:Z)=Y (ps[a].d.getD 0 0):=by
 obtain⟨i,k,_⟩:=b.ok.gk c;have h:=Ix aR.d c;have f:=vt aR.d c (j:=0) aa;have g:=HG c;refine⟨by rw[b.q7];exact h,?_,g,?_⟩
 ·have e:=b4 cA (b4 (amZ aR.d) (jK (a+1) ps));rw[n2,hW] at e;rw[b.q7];unfold gv;omega
 rw[b.q7,iY aa];exact fu f
theorem SS {l:aj0} (d:l.length=3):∃a b c,l=[a,b,c]:=by
 match l,d with
 |[a,b,c],_=>exact⟨a,b,c,bo⟩
def hk.B2 (c:hk n ps F):(∀b∈F.2.2.2.2.2.1,c9 b/\cS b≠2047)/\∀b∈F.2.2.1,c9 b/\cS b≠2047:=by
 constructor
 ·intro b a;rw[c.ni] at a;obtain⟨l,f,a⟩:=amd.1 a;obtain⟨e,d,f⟩:=amd.1 f;obtain⟨g,h,rfl⟩:=fe.1 f;obtain⟨i,j,rfl⟩:=fe.1 a;exact⟨(c.ok.k e d).Pd g h i,(c.ok.hu e d).fin g h i ((Gh _ _).mem_iff.1 j)⟩
 intro b a;rw[c.q7] at a;obtain⟨e,d,a⟩:=amd.1 a;exact⟨(c.ok.k e d).zL b a,(c.ok.k e d).Ep b a⟩
def uu.two {a:aR} (p:uu a) (B:a.aP.length=2) (J:a.d.length=2*a.aP.length-1):sT (a.d,())=Y (az (kw a.d),())/\c8 (kw a.d)/\kn (kw a.d)≠0/\(¬kn (kw a.d)<0->kn (bj (a.d.getD 0 0))≠0):=by
 obtain⟨f,g,k,o⟩:=SS (l:=a.d) aa;have m:=p.zL;have n:=p.Ep;have h:=p.kR B;rw[o] at m n h|-;have z:=n f ac;have u:=n g ac;have A:=n k ac;obtain⟨j,c⟩:∃j:X,j=65536:=⟨_,bo⟩;obtain⟨F,x,M,q,ao,I,r,s⟩:=am3 c (aj6 c z) (aj6 c A) ab ab ab;obtain⟨G,H,N,e,y,f2,t,f4⟩:=am3 c (aj6 c u) (aj6 c u) ab ab ab;have v:kw [f,g,k]=Y (q+-e):=(by have:=(am4 c ab F G.neg ab).2;rw[r,t] at this;show gO (fD (bj f) (bj k)) (jo (fD (bj g) (bj g)))=_;rw[r,t];exact this);refine⟨RE (m f ac) (m g ac) (m k ac),og _ _,?_,λw b=>?_⟩
 ·rw[v] at h|-;intro i;refine h (b4 Y ?_);have i:gS (q+-e)=0:=i;unfold gS at i;split at i
  ·omega
  split at i<;>omega
 have b:kn (bj f)=0:=b;rw[ao] at b;have D:x=0:=by
  have b:gS x=0:=b;unfold gS at b;split at b
  ·omega
  split at b<;>omega
 rw[D,px] at s;have C:(0:Z)<2^j:=mS ab;have E:q=0:=(zc.1 s).resolve_right aa;rw[y] at f2;cases f2;have L:0<=e:=(by have:0<=e*2^j:=(by rw[f4,<-Int.natAbs_mul_self' H];exact r4 aa aa);exact Int.nonneg_of_mul_nonneg_left this C);rw[v,E] at w h;have K:e≠0:=λo=>h (by rw[o];rfl);refine w ?_;show gS (0+-e)<0;unfold gS;split
 ·omega
 split<;>omega
end
end
section
section
variable {n:X} {ps:bn aR} {F:cL}
def JO {a:Z} (b:-100000<=a) (c:a<=100000):aH a=a+1:=cD (x:=a+1) aa aa
def hk.at (b:hk n ps F) (c:a<ps.length):au (au ((gv ps a:Z)+au (2*(ps[a].aP.length:Z)))-1)=(gv ps (a+1):Z)/\(ps[a].aP.length=2->au ((gv ps a:Z)+3)=(gv ps (a+1):Z)):=by
 obtain⟨h,i,_⟩:=b.ok.gk c;obtain⟨_,d,e,_⟩:=b.diag c;have:=b.small.2.2.2.2;have g:=b.nM;refine⟨?_,λf=>?_⟩
 ·rw[cD (x:=2*(ps[a].aP.length:Z)) aa aa,cD (x:=(gv ps a:Z)+2*(ps[a].aP.length:Z)) aa aa,cD aa aa];omega
 rw[cD aa aa];omega
def FU (a:hk n ps F):q3 (F,())=Y (0,()):=by
 obtain⟨q,z,r,A,B⟩:=a.small;obtain⟨v1,nh⟩:=a.B2;have x:=a.nM
 classical
 unfold q3;refine bN.1 ?_;dsimp only;refine bB (y:=.inl ()) ?_ ?_
 ·rw[a5,q,aM (aC (aa:¬((n:Z)>200)))];refine af (KA aa aa) ?_;dsimp only;rw[aJ a.or,aM (by rfl)];refine af (y:=(br,())) ?_ ?_
  ·rw[a5,a.yV,ba aa,aQ ac,a5,a5,r];simp
  dsimp only;rw[aM (by rfl)];refine af (aem a) ?_;dsimp only;rw[aM (by rfl)]
 dsimp only;refine bF (P:=λf=>f=.inl ()) ?_ ?_
 ·refine bQ F.2.2.2.2.2.1.length (λc g=>g=((c:Z),())) rfl ?_ ?_
  ·rintro c _ e rfl;dsimp only;rw[a5,aQ (aJ (aa:(c:Z)<(F.2.2.2.2.2.1.length:Z))),ba aa];refine bB (eR e) ?_;obtain⟨h,i⟩:=v1 _ (b5 e);refine bB (wa h) ?_;dsimp only;rw[aC i,aM (by rfl)];exact bv.2 bo
  rintro _ rfl;dsimp only;rw[a5,aM (aC (aa:¬((F.2.2.2.2.2.1.length:Z)<(F.2.2.2.2.2.1.length:Z))))];exact bv.2 bo
 rintro _ rfl;dsimp only;refine bF (P:=λf=>f=.inl ()) ?_ ?_
 ·refine bQ F.2.2.1.length (λc g=>g=((c:Z),())) rfl ?_ ?_
  ·rintro c _ e rfl;dsimp only;rw[a5,aQ (aJ (aa:(c:Z)<(F.2.2.1.length:Z))),ba aa];refine bB (eR e) ?_;obtain⟨h,i⟩:=nh _ (b5 e);refine bB (wa h) ?_;dsimp only;rw[aC i,aM (by rfl)];exact bv.2 bo
  rintro _ rfl;dsimp only;rw[a5,aM (aC (aa:¬((F.2.2.1.length:Z)<(F.2.2.1.length:Z))))];exact bv.2 bo
 rintro _ rfl;dsimp only;refine bF (P:=λf=>f=.inl ()) ?_ (by rintro _ rfl;exact bv.2 bo);refine bQ ps.length (λb g=>g=((gv ps b:Z),(b:Z),())) rfl ?_ ?_
 ·rintro b _ d rfl;obtain⟨C,v,_⟩:=a.ok.gk d;obtain⟨o,p,w,_⟩:=a.diag d;obtain⟨l,m⟩:=a.at d;dsimp only;rw[a5,a.oQ,aQ (aJ (aa:(b:Z)<(ps.length:Z))),ba aa,a.gk b d];simp only[bM];refine bB (y:=.inl ((gv ps (b+1):Z),())) ?_ (bv.2 bo);refine af (y:=.inl ()) ?_ ?_
  ·rw[gh];by_cases j:ps[b].aP.length=2
   ·obtain⟨s,t,u,_⟩:=(a.ok.k _ (b5 d)).two j v;rw[aJ (aa:((ps[b].aP.length:X):Z)=2),aQ (by rfl),m j];refine af (K5 aa p) ?_;dsimp only;rw[o];refine af s (af (FY t) ?_);dsimp only;rw[gh,aM (aC u)]
   rw[aC (aa:¬((ps[b].aP.length:X):Z)=2),aM (by rfl)]
  dsimp only;rw[l]
 rintro _ rfl;dsimp only;rw[a5,a.oQ,aM (aC (aa:¬((ps.length:Z)<(ps.length:Z))))];exact bv.2 bo
def adx (b:hk n ps F):xR (F,())=Y (((fE ps).1,(fE ps).2.1,(fE ps).2.2,()),0,()):=by
 obtain⟨A,B,C,D,E⟩:=b.small;obtain⟨v1,nh⟩:=b.B2;have x:=b.nM;unfold xR;refine bN.1 ?_;refine bB (FU b) ?_;dsimp only;rw[aM (by rfl)];refine bF (P:=λr=>r=(((0:Z),(0:Z),(0:Z),()),((fE ps).1,(fE ps).2.1,(fE ps).2.2,()),())) ?_ (by rintro _ rfl;exact bv.2 bo);refine bQ ps.length (λa s=>s=((gv ps a:Z),(a:Z),((0:Z),(0:Z),(0:Z),()),((fE (ps.take a)).1,(fE (ps.take a)).2.1,(fE (ps.take a)).2.2,()),())) rfl ?_ ?_
 ·rintro a _ c rfl;obtain⟨H,v,_⟩:=b.ok.gk c;obtain⟨l,m,w,o⟩:=b.diag c;obtain⟨i,j⟩:=b.at c;have z:=b.Su (aa:a<=ps.length);have p:c9 (ps[a].d.getD 0 0):=by
   rw[iY aa];exact(b.ok.k _ (cG c)).zL _ (cG _)
  have q:=K1 c;dsimp only;rw[a5,b.oQ,aQ (aJ (aa:(a:Z)<(ps.length:Z))),ba aa,o,b.gk a c];simp only[bM];refine bB (y:=((gv ps (a+1):Z),((0:Z),(0:Z),(0:Z),()),((fE (ps.take (a+1))).1,(fE (ps.take (a+1))).2.1,(fE (ps.take (a+1))).2.2,()),())) ?_ (bv.2 bo);refine af (jc p) (af (FY (gj _)) ?_);refine af (y:=(((0:Z),(0:Z),(0:Z),()),((fE (ps.take (a+1))).1,(fE (ps.take (a+1))).2.1,(fE (ps.take (a+1))).2.2,()),())) ?_ (by dsimp only;rw[i]);dsimp only;refine af (y:=(bu (ps[a].aP.length=2/\kn (kw ps[a].d)<0),((0:Z),(0:Z),(0:Z),()),((fE (ps.take a)).1,(fE (ps.take a)).2.1,(fE (ps.take a)).2.2,()),())) ?_ ?_
  ·rw[gh];by_cases e:ps[a].aP.length=2
   ·obtain⟨t,u,G,_⟩:=(b.ok.k _ (b5 c)).two e v;rw[aJ (aa:((ps[a].aP.length:X):Z)=2),aQ (by rfl),j e];refine af (K5 aa m) ?_;dsimp only;rw[l];refine af t (af (FY u) ?_);dsimp only;simp[e]
   rw[aC (aa:¬((ps[a].aP.length:X):Z)=2),aM (by rfl)];simp[e]
  dsimp only;rw[q];unfold md;by_cases f:ps[a].aP.length=2/\kn (kw ps[a].d)<0
  ·rw[aJ f,bH,cc f];dsimp only;rw[JO aa aa,cD aa aa];simp
  rw[aC f,bR,aw f];by_cases g:kn (bj (ps[a].d.getD 0 0))<0
  ·rw[aJ g,bH,cc g];dsimp only;rw[cD aa aa];simp
  rw[aC g,bR,aw g];by_cases h:kn (bj (ps[a].d.getD 0 0))>0
  ·rw[aJ h,bH,cc h];dsimp only;rw[cD aa aa];simp
  rw[aC h,bR,cw h];dsimp only;rw[JO aa aa];simp
 rintro _ rfl;dsimp only;rw[a5,b.oQ,aM (aC (aa:¬((ps.length:Z)<(ps.length:Z)))),cy];exact bv.2 bo
end
end
section
def Ps {o:aj0} {n:X} (a:n<=200) (b:e2 o n):HN (o,())=Y (bp,()):=XY a b
section
variable {n:X} {ps:bn aR} {F:cL}
def m6 (ps:bn aR) (a:X):aj0:=(bL a).map λb=>(cK ps b:Z)
theorem WV (ps:bn aR) (a:X):m6 ps (a+1)=m6 ps a++[(cK ps a:Z)]:=by grind [akp,m6]
theorem EH (ps:bn aR) (a:X):(m6 ps a).length=a:=by grind [m6]
theorem Iw (c:a<b):aj (m6 ps b) (a:Z)=Y (cK ps a:Z):=by grind [eR,EH,m6]
theorem Ro (b:hk n ps F):z5 (F,())=Y (m6 ps ps.length,bp,()):=by
 obtain⟨h,o,p,q,r⟩:=b.small;have k:=b.nM;unfold z5;refine bN.1 ?_;dsimp only;refine bF (P:=λf=>f=.inl ((n:Z),(F.2.2.1.length:Z),m6 ps ps.length,())) ?_ ?_
 ·refine bQ ps.length (λa g=>g=((cK ps a:Z),(gv ps a:Z),(a:Z),m6 ps a,())) rfl ?_ ?_
  ·rintro a _ c rfl;obtain⟨s,t,_⟩:=b.ok.gk c;have m:=b.ok.vC c;have e:(ps[a].aP.length:Z)=1\/(ps[a].aP.length:Z)=2:=aa;obtain⟨i,_⟩:=b.at c;have l:=b.diag c;dsimp only;rw[a5,b.oQ,aQ (aJ (aa:(a:Z)<(ps.length:Z))),ba aa,b.gk a c];simp only[bM];refine bB (y:=.inl ((cK ps (a+1):Z),(gv ps (a+1):Z),m6 ps (a+1),())) ?_ (bv.2 bo);refine af (y:=.inl (m6 ps a,())) ?_ ?_
   ·refine af (y:=(br,m6 ps a,())) ?_ ?_
    ·rw[a5,h,aC (aa:¬((cK ps a:Z)>=(n:Z)))];rcases e with d|d
     ·grind
     simp_all
    grind
   dsimp only;rw[eC (by grind [EH]),bM,WV,ru c,cD (x:=(cK ps a:Z)+(ps[a].aP.length:Z)) aa aa];have j:au ((gv ps a:Z)+au (au (2*(ps[a].aP.length:Z))-1))=(gv ps (a+1):Z):=(by rw[cD (x:=2*(ps[a].aP.length:Z)) aa aa,cD (x:=2*(ps[a].aP.length:Z)-1) aa aa,cD aa aa];omega);grind
  rintro _ rfl;dsimp only;rw[a5,b.oQ,aM (aC (aa:¬((ps.length:Z)<(ps.length:Z)))),E2,HF,b.ok.len,<-b.q7];grind [bv]
 rintro _ rfl;simp_all [bv,a5,aQ]
theorem VL (c:hk n ps F):Do (F,m6 ps ps.length,())=Y (bp,()):=by
 obtain⟨s,A,B,C,D⟩:=c.small;have t:=c.nM;unfold Do;refine bN.1 ?_;dsimp only;have k:=c.st 0 aa;have m:=c.st n aa;refine bB (y:=.inl ()) ?_ ?_
 ·refine af (y:=(0:Z)) (k.trans ac) ?_;rw[aQ (by rfl),a5,s,m];simp only[aI];rw[a5,c.h2,<-c.ok.call,hm,aM ac]
 dsimp only;refine bF (P:=λi=>i=.inl ()) ?_ (by grind [bv]);refine bQ ps.length (λa f=>f=((a:Z),())) rfl ?_ ?_
 ·rintro a _ e rfl;obtain⟨E,G,_⟩:=c.ok.gk e;have u:=c.ok.vC e;dsimp only;rw[a5,EH,aQ (aJ (aa:(a:Z)<(ps.length:Z))),ba aa,Iw e,c.gk a e];simp only[bM];have l:au (au ((cK ps a:Z)+(ps[a].aP.length:Z))-1)=((cK ps a+ps[a].aP.length-1:X):Z):=by
   grind [cD]
  rw[l];refine bF (P:=λi=>i=.inl ()) ?_ (by grind [bv]);refine bQ ps[a].aP.length (λh f=>f=(((cK ps a+h:X):Z),())) rfl ?_ ?_
  ·rintro h _ r rfl;obtain⟨w,d,g,o,p⟩:=c.xk e r;have q:=g.len;dsimp only;rw[aQ (aJ (aa:((cK ps a+h:X):Z)<=((cK ps a+ps[a].aP.length-1:X):Z))),ba aa,o,p];simp only[bM];refine bB (y:=.inl ()) ?_ (bv.2 bo);refine af (y:=.inl ()) ?_ ?_
   ·rw[aQ (by grind),a5,aM (aC aa)]
   dsimp only;refine af (K5 aa q) ?_;dsimp only;rw[g.aeH];refine af (y:=.inl ()) ?_ bo;refine bN.1 ?_;refine bQ d.length (λb f=>f=((if b=0 then((cK ps a+ps[a].aP.length-1:X):Z) else d.getD (b-1) 0),(b:Z),())) rfl ?_ ?_
   ·rintro b _ j rfl;obtain⟨x,z⟩:=g.rng b j;dsimp only;rw[a5,aQ (aJ (aa:(b:Z)<(d.length:Z))),ba aa,eR j];simp only[bM];refine bB (y:=.inl (d[b],())) ?_ ?_
    ·refine af (y:=.inl ()) ?_ bo;have v:(if b=0 then((cK ps a+ps[a].aP.length-1:X):Z) else d.getD (b-1) 0)<d[b]:=by
      split
      ·omega
      have:=g.asc (b-1) aa;grind
     grind
    simp_all [bv,aw,Nat.succ_ne_zero,Nat.add_sub_cancel,iY]
   rintro _ rfl;dsimp only;rw[a5,aM (aC (aa:¬((d.length:Z)<(d.length:Z))))];grind [bv]
  rintro _ rfl;dsimp only;rw[aM (aC (aa:¬((cK ps a+ps[a].aP.length:X):Z)<=((cK ps a+ps[a].aP.length-1:X):Z)))];grind [bv]
 rintro _ rfl;dsimp only;rw[a5,EH,aM (aC (aa:¬((ps.length:Z)<(ps.length:Z))))];grind [bv]
def iN (b:aR):bn ik:=b.d.map λa=>az (bj a)
theorem Ib (b:hk n ps F):xx (F,())=Y (ps.map iN,()):=by
 obtain⟨u,v,w,z,A⟩:=b.small;have t:=b.nM;unfold xx;refine bN.1 ?_;dsimp only;refine bF (P:=λf=>f=(ps.map iN,())) ?_ (by grind [bv]);refine bQ ps.length (λa g=>g=((gv ps a:Z),(a:Z),(ps.take a).map iN,())) rfl ?_ ?_
 ·rintro a _ e rfl;obtain⟨B,C,_⟩:=b.ok.gk e;obtain⟨q,r,l,s⟩:=b.diag e;have o:=(b.ok.k _ (b5 e)).zL;dsimp only;rw[a5,b.oQ,aQ (aJ (aa:(a:Z)<(ps.length:Z))),ba aa,b.gk a e];simp only[bM];have m:au (au (2*(ps[a].aP.length:Z))-1)=(ps[a].d.length:Z):=by
   rw[cD (x:=2*(ps[a].aP.length:Z)) aa aa,cD aa aa];omega
  rw[m];refine bF (P:=λf=>f=((gv ps (a+1):Z),(ps.take a).map iN,iN ps[a],())) ?_ ?_
  ·refine bQ ps[a].d.length (λc g=>g=(((gv ps a+c:X):Z),(c:Z),(ps.take a).map iN,(ps[a].d.take c).map (λi=>az (bj i)),())) rfl ?_ ?_
   ·rintro c _ h rfl;have p:=vt aR.d e (j:=c) h;dsimp only;rw[aQ (aJ (aa:(c:Z)<(ps[a].d.length:Z))),ba aa,ba aa];refine bB (y:=ps[a].d[c]) (by rw[b.q7];exact fu p) ?_;refine bB (Bd (o _ (b5 h))) ?_;dsimp only;rw[eC (by grind),bM];grind [mf,bv]
   rintro _ rfl;dsimp only;rw[aM (aC (aa:¬((ps[a].d.length:Z)<(ps[a].d.length:Z)))),cy,<-l];exact bv.2 bo
  rintro _ rfl;dsimp only;rw[eC (by grind),bM];grind [mf,bv]
 rintro _ rfl;dsimp only;rw[a5,b.oQ,aM (aC (aa:¬((ps.length:Z)<(ps.length:Z)))),cy];grind [bv]
end
end
section
section
variable {n:X} {ps:bn aR} {F:cL}
theorem Jd {a:aR} (b:a.d.length=3):sF (iN a,())=Y (az (kw a.d),()):=by grind [We,SS,iN]
theorem E8 (a:hk n ps F):qV (F,())=Y (0,()):=by
 obtain⟨t,B,u,C,D⟩:=a.small;obtain⟨v1,nh⟩:=a.B2;have z:=a.nM;have A:=a.del;unfold qV;refine bN.1 ?_;dsimp only;refine bB (y:=.inl ()) ?_ ?_
 ·rw[a5,t,aM (aC (aa:¬((n:Z)>200)))];refine af (Ps aa a.or) ?_;dsimp only;rw[aM (by rfl),a5,a.yV,ba aa,aQ ac,a5,a5,u,aM ac]
 dsimp only;refine bB (Ro a) ?_;dsimp only;refine bB (y:=.inl ()) ?_ ?_
 ·rw[aQ (by rfl),aQ (by grind)];refine af (VL a) ?_;grind
 dsimp only;refine bF (P:=λe=>e=.inl ()) ?_ ?_
 ·have m:∀b∈[F.2.2.2.2.2.1,F.2.2.1],b.length<=1000/\∀o∈b,c9 o/\cS o≠2047:=λb m=>by
   grind
  refine bQ 2 (λg f=>f=((g:Z),[F.2.2.2.2.2.1,F.2.2.1],())) rfl ?_ ?_
  ·rintro g _ r rfl;have l:g<([F.2.2.2.2.2.1,F.2.2.1]:eA).length:=r;obtain⟨ay,s⟩:=m _ (b5 l);dsimp only;rw[a5,show(([F.2.2.2.2.2.1,F.2.2.1]:eA).length:Z)=2 from rfl,aQ (aJ (aa:(g:Z)<2)),ba aa,jq l];generalize([F.2.2.2.2.2.1,F.2.2.1]:eA)[g]=b at*;refine bF (P:=λe=>e=.inl ([F.2.2.2.2.2.1,F.2.2.1],())) ?_ (by grind [bv]);refine bQ b.length (λh f=>f=((h:Z),[F.2.2.2.2.2.1,F.2.2.1],())) rfl ?_ ?_
   ·rintro h _ j rfl;obtain⟨v,w⟩:=s _ (b5 j);dsimp only;rw[a5,aQ (aJ (aa:(h:Z)<(b.length:Z))),ba aa];refine bB (eR j) (bB (E1 v) ?_);dsimp only;rw[aC w,aM (by rfl)];grind [bv]
   rintro _ rfl;dsimp only;rw[a5,aM (aC (aa:¬((b.length:Z)<(b.length:Z))))];grind [bv]
  grind [bv]
 rintro _ rfl;dsimp only;refine bB (Ib a) ?_;dsimp only;refine bF (P:=λe=>e=.inl ()) ?_ (by grind [bv]);refine bQ ps.length (λc f=>f=((c:Z),ps.map iN,())) rfl ?_ ?_
 ·rintro c _ i rfl;obtain⟨I,x,_⟩:=a.ok.gk i;dsimp only;rw[a5,b9,aQ (aJ (aa:(c:Z)<(ps.length:Z))),ba aa,jq (by grind),amM];refine bB (y:=.inl (ps.map iN,())) ?_ (bv.2 bo);have q:ak (iN ps[c])=(ps[c].d.length:Z):=(by grind [b9,a5,iN]);rw[q,gh];by_cases p:ps[c].aP.length=2
  ·obtain⟨E,G,H,_⟩:=(a.ok.k _ (cG i)).two p x;simp_all [gh,aM,aC,af,Jd,xX,aJ,aQ]
  grind
 rintro _ rfl;dsimp only;rw[a5,b9,aM (aC (aa:¬((ps.length:Z)<(ps.length:Z))))];grind [bv]
theorem Pc (b:hk n ps F):uY (F,())=Y (((fE ps).1,(fE ps).2.1,(fE ps).2.2,()),0,()):=by
 obtain⟨w,x,z,A,B⟩:=b.small;have u:=b.nM;unfold uY;refine bN.1 ?_;refine bB (E8 b) ?_;dsimp only;rw[aM (by rfl)];refine bB (Ib b) ?_;dsimp only;refine bF (P:=λp=>p=(((0:Z),(0:Z),(0:Z),()),((fE ps).1,(fE ps).2.1,(fE ps).2.2,()),())) ?_ (by grind [bv]);refine bQ ps.length (λa q=>q=((a:Z),((0:Z),(0:Z),(0:Z),()),((fE (ps.take a)).1,(fE (ps.take a)).2.1,(fE (ps.take a)).2.2,()),ps.map iN,())) rfl ?_ ?_
 ·rintro a _ e rfl;obtain⟨t,i,_⟩:=b.ok.gk e;have v:=b.Su (aa:a<=ps.length);have o:=K1 e;have m:ak (iN ps[a])=(ps[a].d.length:Z):=(by grind [b9,a5,iN]);have l:aj (iN ps[a]) 0=Y (az (bj (ps[a].d.getD 0 0))):=by
   grind [iY,eR,b9,trans,iN]
  dsimp only;rw[a5,b9,aQ (aJ (aa:(a:Z)<(ps.length:Z))),ba aa,jq (by grind),amM];refine bB (y:=(((0:Z),(0:Z),(0:Z),()),((fE (ps.take (a+1))).1,(fE (ps.take (a+1))).2.1,(fE (ps.take (a+1))).2.2,()),ps.map iN,())) ?_ (bv.2 bo);refine af l (af (xX (gj _)) ?_);dsimp only;rw[m,gh,o];unfold md;by_cases h:ps[a].aP.length=2/\kn (kw ps[a].d)<0
  ·obtain⟨r,j,s,_⟩:=(b.ok.k _ (cG e)).two h.1 i;refine af (y:=.inr (((0:Z),(0:Z),(0:Z),()),((fE (ps.take a)).1+1,(fE (ps.take a)).2.1,(fE (ps.take a)).2.2+1,()),ps.map iN,())) ?_ ?_
   ·rw[aJ (aa:((ps[a].d.length:X):Z)=3),bH];refine af (Jd aa) (af (xX j) ?_);dsimp only;rw[aQ (aJ h.2),JO aa aa,cD aa aa]
   grind
  refine af (y:=.inl ((ps[a].aP.length:Z),((0:Z),(0:Z),(0:Z),()),((fE (ps.take a)).1,(fE (ps.take a)).2.1,(fE (ps.take a)).2.2,()),ps.map iN,())) ?_ ?_
  ·by_cases c:ps[a].aP.length=2
   ·obtain⟨r,j,s,_⟩:=(b.ok.k _ (cG e)).two c i;simp_all [aM,aC,af,Jd,xX,aJ,bH]
   grind
  dsimp only;rw[cw h];by_cases f:kn (bj (ps[a].d.getD 0 0))<0
  ·rw[aJ f,bH,ax f];grind [cD]
  rw[aC f,bR,aw f];by_cases g:kn (bj (ps[a].d.getD 0 0))>0
  ·rw[aJ g,bH,ax g];grind [cD]
  rw[aC g,bR,aw g];have ao:ps[a].aP.length=1:=by
   rcases t with c|c
   ·exact c
   obtain⟨_,_,_,C⟩:=(b.ok.k _ (cG e)).two c i;omega
  grind [cD]
 rintro _ rfl;dsimp only;rw[a5,b9,aM (aC (aa:¬((ps.length:Z)<(ps.length:Z)))),cy];grind [bv]
end
end
section
def fw {α:Type} (m n:X) (E:X->X->α):bn (bn α):=aF m λi=>aF n (E i)
def g2 {α:Type} (E:X->X->α) (i j:X) (c:α):X->X->α:=λa b=>if a=i/\b=j then c else E a b
section
variable {α:Type} {m n:X} {E:X->X->α} {i j:X}
def KS:(fw m n E).length=m:=cN _ _
def yL {c:X->X->α} (d:∀a,a<m->∀b,b<n->E a b=c a b):fw m n E=fw m n c:=eD λa e=>eD λb f=>d a e b f
def yM (a:i<m):bf (fw m n E).length (i:Z)=Y i:=by rw[KS];exact fB a
def yN (b:i<m) (c:j<n):((a8 (fw m n E) i λa=>Y a).bind λa=>bf a.length (j:Z))=Y j:=by unfold fw;rw[ir (j9 b),aI,cN,fB c]
def yO (k:i<m) (l:j<n) (f:α):(a8 (fw m n E) i λe=>(a8 e j λ_=>Y (e.set j f)).map λo=>(fw m n E).set i o)=Y (fw m n (g2 E i j f)):=by
 unfold fw;rw[ir (j9 k),ir (j9 l),jv];congr 1;rw[hI,hI];refine eD λg p=>?_;by_cases a:g=i
 ·subst a;rw[g9];refine eD λd h=>?_;by_cases b:d=j
  ·subst b;rw[g9];exact(ax ⟨bo,bo⟩).symm
  rw[hL _ _ b];exact(aw (λc=>b c.2)).symm
 rw[hL _ _ a];refine eD λd h=>?_;exact(aw (λc=>a c.1)).symm
def KR (a:i<m):aj (fw m n E) (i:Z)=Y (aF n (E i)):=fu (j9 a)
end
def BY (E:X->X->ajU) (i j:X) (c:ajU):(λa b=>az (g2 E i j c a b))=g2 (λa b=>az (E a b)) i j (az c):=by funext a b;unfold g2;split<;>rfl
def ga (ps:bn aR) (a j:X):ajU:=if a=j then iz 1 else match(ps.flatMap aj7)[j]? with
 |some b=>if(ps.flatMap aR.aP).getD a 0∈b.1 then bj (b.2 ((ps.flatMap aR.aP).getD a 0)) else Y 0
 |none=>Y 0
def ij (ps:bn aR):X->X->X->ajU
 |0=>λ_ _=>Y 0
 |b+1=>match ps[b]? with
  |some a=>if a.aP.length=2 then g2 (g2 (g2 (g2 (ij ps b) (cK ps b) (cK ps b) (bj (a.d.getD 0 0))) (cK ps b+1) (cK ps b) (bj (a.d.getD 1 0))) (cK ps b) (cK ps b+1) (bj (a.d.getD 1 0))) (cK ps b+1) (cK ps b+1) (bj (a.d.getD 2 0))
   else g2 (ij ps b) (cK ps b) (cK ps b) (bj (a.d.getD 0 0))
  |none=>ij ps b
section
variable {n:X} {ps:bn aR} {F:cL}
def k4 (ps:bn aR) (j b a:X):ik:=if a<j then az (ga ps b a) else if b=a then az (iz 1) else fh
def rZ (ps:bn aR) (d:ih) (c:ajZ) (j e a b:X):ik:=if b=j/\(ps.flatMap aR.aP).getD a 0∈c.take e then az (bj (d.2 ((ps.flatMap aR.aP).getD a 0))) else k4 ps j a b
theorem hb.getD (c:hb n ps) {a:X} (e:a<n):(ps.flatMap aR.aP).getD ((ps.flatMap aR.aP).idxOf a) 0=a:=by have d:=c.perm.mem_iff.2 (jJ.2 e);have b:=GI.2 d;rw[n3,bk b,an7 b];rfl
def hb.idx (b:hb n ps) (e:a<n):(ps.flatMap aR.aP).idxOf ((ps.flatMap aR.aP).getD a 0)=a:=by have c:a<(ps.flatMap aR.aP).length:=(by rw[b.len];exact e);have f:=b.perm.nodup_iff.2 amY;rw[n3,bk c,us];have d:=GI.2 (cG c);exact(uh f).1 (an7 d)
end
end
section
section
variable {n:X} {ps:bn aR} {F:cL}
def hb.eB (f:hb n ps) (i:a<n):∃b c,∃d:b<ps.length,c<ps[b].aP.length/\a=cK ps b+c:=by
 have k:∀b,b<=ps.length->a<cK ps b->∃b c,∃d:b<ps.length,c<ps[b].aP.length/\a=cK ps b+c:=by
  intro b
  induction b with
  |zero=>intro _ g;exact absurd g (by unfold cK;simp)
  |succ b j=>
   intro d h;by_cases e:a<cK ps b
   ·exact j aa e
   rw[ru aa] at h;exact⟨b,a-cK ps b,aa,aa,aa⟩
 exact k ps.length (bd _) (by rw[E2,f.len];exact i)
structure Tx (n:X) (ps:bn aR) (F:cL) (j:X) (c:ih) (lo:X) (S:ajZ):Prop where
 cs:(ps.flatMap aj7)[j]?=Y c
 KV:aj F.2.2.2.1 (j:Z)=Y (lo:Z)
 s1:aj F.2.2.2.1 ((j+1:X):Z)=Y ((lo+S.length:X):Z)
 h2:∀t (pc:t<S.length),aj F.2.2.2.2.1 ((lo+t:X):Z)=Y ((ps.flatMap aR.aP).idxOf S[t]:Z)/\aj F.2.2.2.2.2.1 ((lo+t:X):Z)=Y (c.2 S[t])
 mem:∀r,r∈S↔r∈c.1
 nd:S.Nodup
 row:∀r∈c.1,j<(ps.flatMap aR.aP).idxOf r/\(ps.flatMap aR.aP).idxOf r<n/\r<n/\c9 (c.2 r)/\cS (c.2 r)≠2047
 le:lo+S.length<=144
def hk.MY (c:hk n ps F) (B:a<n):∃r H x,Tx n ps F a r H x:=by
 obtain⟨d,D,h,A,rfl⟩:=c.ok.eB B;obtain⟨g,s,t⟩:=c.ok.xk h A;obtain⟨m,z⟩:=hN.1 t;have o:=Ho (gx λb=>(ps.flatMap aR.aP).idxOf b) m;have K:=MP (gx λb=>(ps.flatMap aR.aP).idxOf b) (cs:=ps.flatMap aj7) (cK ps d+D+1);have v:=λe i=>vt (gx λb=>(ps.flatMap aR.aP).idxOf b) m (j:=e) i;have w:=λe i=>vt (ku λb=>(ps.flatMap aR.aP).idxOf b) m (j:=e) i;rw[z] at o v w;have p:=c.ok.hu _ (cG h);have C:=c.small;have u:(gx (λb=>(ps.flatMap aR.aP).idxOf b) (ps[d].rows,g)).length=(me (λb=>(ps.flatMap aR.aP).idxOf b) ps[d].rows).length:=(by unfold gx;rw[eM]);have J:(ku (λb=>(ps.flatMap aR.aP).idxOf b) (ps[d].rows,g)).length=(me (λb=>(ps.flatMap aR.aP).idxOf b) ps[d].rows).length:=(by unfold ku;rw[eM]);have G:∀f:bn ih,(f.flatMap (ku λb=>(ps.flatMap aR.aP).idxOf b)).length=(f.flatMap (gx λb=>(ps.flatMap aR.aP).idxOf b)).length:=by
  intro f
  induction f with
  |nil=>rfl
  |cons r f E=>
   rw[r9,r9,hW,hW,E];congr 1;unfold ku gx;rw[eM,eM]
 refine⟨(ps[d].rows,g),_,me (λb=>(ps.flatMap aR.aP).idxOf b) ps[d].rows,t,c.st _ aa,?_,λe i=>⟨?_,?_⟩,λl=>(Gh _ _).mem_iff,(Gh _ _).nodup_iff.2 p.nd,λl q=>?_,?_⟩
 ·rw[c.st _ aa,o,u]
 ·rw[c.h2];refine(fu (v e aa)).trans ?_;unfold gx;rw[n4]
 ·rw[c.ni,<-G];refine(fu (w e aa)).trans ?_;unfold ku;rw[n4]
 ·obtain⟨I,y⟩:=c.ok.after h q;exact⟨aa,y,jJ.1 (p.sub l q),(c.ok.k _ (cG h)).Pd g s l,p.fin g s l q⟩
 rw[<-u,<-o];rw[c.h2] at C;omega
def adm (o:hk n ps F):Eg (F,())=Y (fw n n (λb a=>az (ga ps b a)),fw n n (λb a=>az (ij ps ps.length b a)),()):=by
 obtain⟨C,ce,ci,co,cv⟩:=o.small;have a1:=o.nM;unfold Eg;refine bN.1 ?_;dsimp only;refine bF (P:=λc=>c=(fw n n (k4 ps 0),fw n n (λ_ _=>fh),())) ?_ ?_
 ·refine bQ n (λe v=>v=((e:Z),fw e n (k4 ps 0),fw e n (λ_ _=>fh),())) rfl ?_ ?_
  ·rintro e _ L rfl;dsimp only;rw[a5,C,aQ (aJ (aa:(e:Z)<(n:Z))),ba aa];refine bB (iP aa) ?_;rw[eC (by rw[KS];simp;omega),bM];refine bB (iP aa) ?_;rw[eC (by rw[KS];simp;omega),bM];have ao:fw e n (k4 ps 0)++[bJ n (br,((br,(([]:aj0),())),((0:Z),())))]=fw (e+1) n (λb a=>if b=e then fh else k4 ps 0 b a):=by
    unfold fw;rw[ri,jY];congr 1
    ·refine eD λb s=>eD λa g=>?_;show k4 ps 0 b a=if b=e then fh else k4 ps 0 b a
     rw[aw aa]
    congr 1;refine eD λa g=>?_;show fh=if e=e then fh else k4 ps 0 e a
    rw[ax bo]
   have D:fw e n (λ_ _=>fh)++[bJ n (br,((br,(([]:aj0),())),((0:Z),())))]=fw (e+1) n (λ_ _=>fh):=(by unfold fw;rw[ri,jY];rfl);rw[ao,D];refine bB (yM (akI e)) ?_;refine bB (BC ab ab) ?_;dsimp only;refine bB (yN (akI e) L) ?_;refine bB (yO (akI e) L _) ?_;refine bv.2 ?_;show _=_;have u:fw (e+1) n (g2 (λb a=>if b=e then fh else k4 ps 0 b a) e e (az (iz 1)))=fw (e+1) n (k4 ps 0):=yL λb s a g=>by
    unfold g2 k4;dsimp only;by_cases h:b=e
    ·by_cases i:a=e
     ·rw[ax ⟨h,i⟩,aw aa,ax aa]
     rw[aw (λc=>i c.2),ax h,aw aa,aw aa]
    rw[aw (λc=>h c.1),aw h]
   rw[u]
  rintro _ rfl;dsimp only;rw[a5,C,aM (aC (aa:¬((n:Z)<(n:Z))))];exact bv.2 bo
 rintro _ rfl;dsimp only;refine bF (P:=λc=>c=(fw n n (λb a=>az (ga ps b a)),fw n n (λ_ _=>fh),())) ?_ ?_
 ·refine bQ n (λl v=>v=((l:Z),fw n n (k4 ps l),fw n n (λ_ _=>fh),())) rfl ?_ ?_
  ·rintro l _ G rfl;obtain⟨p,A,m,q⟩:=o.MY G;have a4:=q.le;dsimp only;rw[a5,C,aQ (aJ (aa:(l:Z)<(n:Z))),ba aa,q.KV,bM];refine bF (P:=λc=>c=(fw n n (k4 ps (l+1)),fw n n (λ_ _=>fh),())) ?_ (by rintro _ rfl;exact bv.2 bo);refine bQ m.length (λf v=>v=(((A+f:X):Z),fw n n (rZ ps p m l f),fw n n (λ_ _=>fh),())) ?_ ?_ ?_
   ·show _=_;have:fw n n (rZ ps p m l 0)=fw n n (k4 ps l):=yL λb s a g=>(by unfold rZ;rw[amS,aw ac]);rw[this];rfl
   ·rintro f _ t rfl;obtain⟨V,ad⟩:=q.h2 f t;obtain⟨bl,H,T,aL,bx⟩:=q.row _ ((q.mem _).1 (b5 t));dsimp only;rw[q.s1,bM,aQ (aJ (aa:((A+f:X):Z)<((A+m.length:X):Z))),ba aa,V,bM];refine bB (yM H) ?_;rw[ad,bM];refine bB (jc aL) ?_;dsimp only;refine bB (yN H G) (bB (yO H G _) ?_);refine bv.2 ?_;show _=_;have u:fw n n (g2 (rZ ps p m l f) ((ps.flatMap aR.aP).idxOf m[f]) l (az (bj (p.2 m[f]))))=fw n n (rZ ps p m l (f+1)):=yL λb s a g=>by
     unfold g2 rZ;rw[mf t];by_cases h:a=l
     ·by_cases i:b=(ps.flatMap aR.aP).idxOf m[f]
      ·have w:(ps.flatMap aR.aP).getD b 0=m[f]:=(by rw[i];exact o.ok.getD T);rw[ax ⟨i,h⟩,ax ⟨h,by rw[w];exact lD _ (fg.2 bo)⟩,w]
      have w:(ps.flatMap aR.aP).getD b 0≠m[f]:=λw=>i (by rw[<-w];exact(o.ok.idx s).symm);rw[aw (λc=>i c.1)];by_cases B:(ps.flatMap aR.aP).getD b 0∈m.take f
      ·rw[ax ⟨h,B⟩,ax ⟨h,n5 _ B⟩]
      rw[aw (λc=>B c.2),aw (λc=>(ha.1 c.2).elim B (λam=>w (fg.1 am)))]
     rw[aw (λc=>h c.2),aw (λc=>h c.1),aw (λc=>h c.1)]
    rw[u];rfl
   rintro _ rfl;dsimp only;rw[q.s1,bM,aM (aC (aa:¬(((A+m.length:X):Z)<((A+m.length:X):Z))))];refine bv.2 ?_;show _=_;have u:fw n n (rZ ps p m l m.length)=fw n n (k4 ps (l+1)):=yL λb s a g=>by
    unfold rZ k4;rw[hm];by_cases h:a=l
    ·subst h;rw[cc (akI a)];unfold ga;rw[q.cs];dsimp only;by_cases i:(ps.flatMap aR.aP).getD b 0∈p.1
     ·have S:=(q.row _ i).1;rw[o.ok.idx s] at S;rw[ax ⟨bo,(q.mem _).2 i⟩,aw aa,ax i]
     rw[aw (λc=>i ((q.mem _).1 c.2)),aw (wP a),aw i];split
     ·rfl
     exact AD
    rw[aw (λc=>h c.1)];by_cases i:a<l
    ·rw[ax i,ax aa]
    rw[aw i,aw (aa:¬a<l+1)]
   rw[u]
  rintro _ rfl;dsimp only;rw[a5,C,aM (aC (aa:¬((n:Z)<(n:Z))))];refine bv.2 ?_;show _=_;have u:fw n n (k4 ps n)=fw n n (λb a=>az (ga ps b a)):=yL λb s a g=>(by unfold k4;rw[cc g]);rw[u]
 rintro _ rfl;dsimp only;refine bF (P:=λc=>c=(fw n n (λb a=>az (ga ps b a)),fw n n (λb a=>az (ij ps ps.length b a)),())) ?_ (by rintro _ rfl;exact bv.2 bo);refine bQ ps.length (λa v=>v=((cK ps a:Z),(gv ps a:Z),(a:Z),fw n n (λb a=>az (ga ps b a)),fw n n (λb p=>az (ij ps a b p)),())) ?_ ?_ ?_
 ·show _=_;have:fw n n (λ_ _=>fh)=fw n n (λb p=>az (ij ps 0 b p)):=yL λb s a g=>AD;rw[this];rfl
 ·rintro a _ g rfl;obtain⟨c1,c2,_⟩:=o.ok.gk g;have a3:=o.ok.vC g;obtain⟨ap,av,a0,O⟩:=o.diag g;obtain⟨N,an⟩:=o.at g;have E:=(o.ok.k _ (cG g)).zL;have R:=λf t=>vt aR.d g (j:=f) t;have K:ij ps (a+1)=if ps[a].aP.length=2 then g2 (g2 (g2 (g2 (ij ps a) (cK ps a) (cK ps a) (bj (ps[a].d.getD 0 0))) (cK ps a+1) (cK ps a) (bj (ps[a].d.getD 1 0))) (cK ps a) (cK ps a+1) (bj (ps[a].d.getD 1 0))) (cK ps a+1) (cK ps a+1) (bj (ps[a].d.getD 2 0))
   else g2 (ij ps a) (cK ps a) (cK ps a) (bj (ps[a].d.getD 0 0)):=by
   rw[ij,bk g]
  dsimp only;rw[a5,o.oQ,aQ (aJ (aa:(a:Z)<(ps.length:Z))),show aH (a:Z)=((a+1:X):Z) from ba aa];refine bB (y:=((cK ps (a+1):Z),(gv ps (a+1):Z),fw n n (λb a=>az (ga ps b a)),fw n n (λb p=>az (ij ps (a+1) b p)),())) ?_ (bv.2 bo);refine af (yM (aa:cK ps a<n)) (af O ?_);have Q:c9 (ps[a].d.getD 0 0):=(by rw[iY aa];exact E _ (b5 _));refine af (jc Q) ?_;dsimp only;refine af (yN (aa:cK ps a<n) (aa:cK ps a<n)) (af (yO (aa:cK ps a<n) (aa:cK ps a<n) _) ?_);refine af (y:=(fw n n (λb a=>az (ga ps b a)),fw n n (λb p=>az (ij ps (a+1) b p)),())) ?_ ?_
  ·rw[o.gk a g];simp only[aI];by_cases h:ps[a].aP.length=2
   ·have z:cK ps a<n:=aa;have r:cK ps a+1<n:=aa;have J:∀f,f<ps[a].d.length->aj F.2.2.1 ((gv ps a+f:X):Z)=Y (ps[a].d.getD f 0):=λf t=>by
     rw[o.q7,iY t];exact fu (R f t)
    have I:=J 1 aa;have i:=J 2 aa;have M:c9 (ps[a].d.getD 1 0):=(by rw[iY aa];exact E _ (b5 _));have U:c9 (ps[a].d.getD 2 0):=(by rw[iY aa];exact E _ (b5 _));have D:au ((gv ps a:Z)+2)=((gv ps a+2:X):Z):=(by rw[cD aa aa];omega);rw[gh,aJ (aa:((ps[a].aP.length:X):Z)=2),bH,show aH (cK ps a:Z)=((cK ps a+1:X):Z) from ba aa,show aH (gv ps a:Z)=((gv ps a+1:X):Z) from ba aa,D];refine af (yM r) (af (yM z) (af (yM r) (af I (af (jc M) ?_))));dsimp only;refine af I (af (jc M) ?_);dsimp only;refine af i (af (jc U) ?_);dsimp only;refine af (yN r z) (af (yO r z _) (af (yN z r) (af (yO z r _) (af (yN r r) (af (yO r r _) ?_)))));rw[K,cc h,<-BY,<-BY,<-BY,<-BY]
   rw[gh,aC (aa:¬((ps[a].aP.length:X):Z)=2),bR,K,aw h,<-BY]
  dsimp only;rw[o.gk a g];simp only[bM];rw[N,ru g,cD (x:=(cK ps a:Z)+(ps[a].aP.length:Z)) aa aa,Int.natCast_add]
 rintro _ rfl;dsimp only;rw[a5,o.oQ,aM (aC (aa:¬((ps.length:Z)<(ps.length:Z))))];exact bv.2 bo
end
end
section
def jC (n a:X):ajZ:=akv (a-1) (min n (a+2)-(a-1))
def oJ (ps:bn aR) (n b c:X) (a:X×X):ajU:=fD (fD (ga ps b a.1) (ij ps ps.length a.1 a.2)) (ga ps c a.2)
def jB (n b:X):aj1:=(bL b).flatMap λa=>(jC n a).map λc=>(a,c)
def lq (ps:bn aR) (n a b:X):ajU:=k2 ((jB n n).map (oJ ps n a b))
def Kr (n a:X):jB n (a+1)=jB n a++(jC n a).map λb=>(a,b):=by unfold jB;rw[j5,n2];simp
def FSq (n:X):∀m,(jB n m).length<=3*m
 |0=>bd _
 |m+1=>by have:=FSq n m;rw[Kr,hW,eM];have:(jC n m).length<=3:=(by unfold jC;rw[am1];omega);omega
def adi {n:X} (c:b<(jC n a).length):(jC n a)[b]=a-1+b:=by simp[jC]
def LU (ps:bn aR) (a b:X):c8 (ga ps a b):=by
 unfold ga;split
 ·exact vB 1
 split
 ·split
  ·exact gj _
  exact Bm
 exact Bm
def B0 {E:X->X->ajU} (e:∀c d,c8 (E c d)) (g:c8 f):∀c d,c8 (g2 E a b f c d):=λc d=>by
 unfold g2;split
 ·exact g
 exact e c d
def Ch (ps:bn aR):∀m a b,c8 (ij ps m a b)
 |0=>λa b=>Bm
 |m+1=>by
  rw[ij];cases ps[m]? with
  |none=>exact Ch ps m
  |some d=>
   dsimp only;by_cases c:d.aP.length=2
   ·rw[ax c];exact B0 (B0 (B0 (B0 (Ch ps m) (gj _)) (gj _)) (gj _)) (gj _)
   rw[aw c];exact B0 (Ch ps m) (gj _)
section
variable {n:X} {ps:bn aR} {F:cL}
def RI (m:hk n ps F) (p:n<=5):sU (F,())=Y (((n:Z),(n:Z),aF (n*n) (λb=>az (lq ps n (b %n) (b/n))),()),0,()):=by
 have K:=pt p;obtain⟨E,_⟩:=m.small;unfold sU;refine af (FU m) ?_;dsimp only;rw[aM (by rfl),a5,E,aM (aC (aa:¬((n:Z)>64)))];refine af (adm m) (af (RH p) ?_);dsimp only;refine bN.1 ?_;generalize L:(((0:Z),(0:Z),[],()):gN)=e;refine bF (P:=λg=>g=(e,((n:Z),(n:Z),aF (n*n) (λb=>az (lq ps n (b %n) (b/n))),()),())) ?_ (by rintro _ rfl;exact bv.2 bo);refine bQ n (λc h=>h=((c:Z),e,((n:Z),(n:Z),aF (n*n) (ng (λb=>az (lq ps n (b %n) (b/n))) (c*n)),()),())) ?_ ?_ ?_
 ·rw[al3];rfl
 ·rintro c _ o rfl;dsimp only;rw[aQ (aJ (aa:(c:Z)<(n:Z))),ba aa];refine bF (P:=λg=>g=(e,((n:Z),(n:Z),aF (n*n) (ng (λb=>az (lq ps n (b %n) (b/n))) (c*n+n)),()),())) ?_ (by rintro _ rfl;rw[Nat.add_mul,amX];exact bv.2 bo);refine bQ n (λd h=>h=((d:Z),e,((n:Z),(n:Z),aF (n*n) (ng (λb=>az (lq ps n (b %n) (b/n))) (c*n+d)),()),())) rfl ?_ ?_
  ·rintro d _ k rfl;obtain⟨t,u⟩:=AC (n:=n) (j:=c) k;dsimp only;rw[aQ (aJ (aa:(d:Z)<(n:Z))),show aH (d:Z)=((d+1:X):Z) from ba aa];generalize A:((n:Z),(n:Z),aF (n*n) (ng (λb=>az (lq ps n (b %n) (b/n))) (c*n+d)),())=i;refine bF (P:=λg=>g=(e,i,((jB n n).map (oJ ps n d c)).map az,())) ?_ ?_
   ·refine bQ n (λa h=>h=((a:Z),e,i,((jB n a).map (oJ ps n d c)).map az,())) rfl ?_ ?_
    ·rintro a _ r rfl;have C:=FSq n a;dsimp only;rw[aQ (aJ (aa:(a:Z)<(n:Z))),ba aa];have v:(if 0>au ((a:Z)-1) then 0 else au ((a:Z)-1))=((a-1:X):Z):=by
      rw[cD aa aa];split<;>omega
     rw[v];have J:(jC n a).length=min n (a+2)-(a-1):=(by unfold jC;rw[am1]);refine bF (P:=λg=>g=(e,i,((jB n (a+1)).map (oJ ps n d c)).map az,())) ?_ (by rintro _ rfl;exact bv.2 bo);refine bQ (jC n a).length (λb h=>h=(((a-1+b:X):Z),e,i,((jB n a++((jC n a).take b).map λf=>(a,f)).map (oJ ps n d c)).map az,())) ?_ ?_ ?_
     ·rw[amS,qD,pB];rfl
     ·rintro b _ l rfl;have s:a-1+b<n:=aa;have I:a-1+b<=a+1:=aa;have D:=adi l;dsimp only;refine bB (y:=.inl (e,i,((jB n a++((jC n a).take b).map λf=>(a,f)).map (oJ ps n d c)).map az,())) ?_ ?_
      ·rw[aJ (aa:((a-1+b:X):Z)<(n:Z)),aQ (by rfl),aJ (aa:((a-1+b:X):Z)<=((a+1:X):Z)),bH]
      dsimp only;refine bB (KR k) (bB (fu (j9 r)) (bB (KR r) (bB (fu (j9 s)) ?_)));refine bB (kl (LU _ _ _) (Ch _ _ _ _)) ?_;dsimp only;refine bB (KR o) (bB (fu (j9 s)) (bB (kl (na _ _) (LU _ _ _)) ?_));dsimp only;rw[eC (by simp;omega),bM,ba aa];refine bv.2 ?_;show _=_;have w:(jB n a++((jC n a).take (b+1)).map λf=>(a,f))=(jB n a++((jC n a).take b).map λf=>(a,f))++[(a,a-1+b)]:=(by rw[mf l,alJ,D,akZ];rfl);rw[w];simp only[alJ,List.map_cons,List.map_nil];rfl
     rintro _ rfl;dsimp only;refine bB (y:=.inr (.inr (e,i,((jB n (a+1)).map (oJ ps n d c)).map az,()))) ?_ (bv.2 bo);rw[cy,<-Kr];by_cases H:a-1+(jC n a).length<n
     ·rw[aJ (aa:((a-1+(jC n a).length:X):Z)<(n:Z)),aQ (by rfl),aC (aa:¬((a-1+(jC n a).length:X):Z)<=((a+1:X):Z)),bR]
     rw[aC (aa:¬((a-1+(jC n a).length:X):Z)<(n:Z)),aM (by rfl)]
    rintro _ rfl;dsimp only;rw[aM (aC (aa:¬((n:Z)<(n:Z))))];exact bv.2 bo
   rintro _ rfl;have C:=FSq n n;dsimp only;refine bB (RM (λG B=>?_) (by simp;omega)) ?_
   ·obtain⟨M,_,rfl⟩:=fe.1 B;exact na _ _
   dsimp only;have q:=CK o k;rw[<-A];dsimp only;rw[Lv p o k];refine bB (fB (by rw[cN];exact q)) ?_;have x:az (k2 ((jB n n).map (oJ ps n d c)))=(λb=>az (lq ps n (b %n) (b/n))) (c*n+d):=(by show _=az (lq ps n ((c*n+d) %n) ((c*n+d)/n));rw[t,u];rfl);rw[x,gP q,Ta];exact bv.2 bo
  rintro _ rfl;dsimp only;rw[aM (aC (aa:¬((n:Z)<(n:Z))))];exact bv.2 bo
 rintro _ rfl;dsimp only;rw[aM (aC (aa:¬((n:Z)<(n:Z))))];refine bv.2 ?_;show _=_;have z:aF (n*n) (ng (λb=>az (lq ps n (b %n) (b/n))) (n*n))=aF (n*n) (λb=>az (lq ps n (b %n) (b/n))):=eD λb l=>(by unfold ng;rw[cc l]);rw[z]
end
end
section
def cJ (a:ajU):Rat:=((a.getD 0:Z):Rat)
def mb (a:X×X->Rat):aj1->Rat
 |[]=>0
 |x::b=>a x+mb a b
theorem Sm {b c:X×X->Rat}:∀{a:aj1},(∀x∈a,b x=c x)->mb b a=mb c a
 |[],_=>rfl
 |x::a,d=>by rw[mb,mb,d x ac,Sm λe f=>d e (by grind)]
theorem Sp {b:X×X->Rat}:∀{a:aj1},(∀x∈a,b x=0)->mb b a=0
 |[],_=>rfl
 |x::a,c=>by rw[mb,c x ac,Sp λd e=>c d (by grind)];grind
theorem Sn {c d:X×X->Rat} {b:X×X} {g:Rat}:∀{a:aj1},a.Nodup->b∈a->(∀y,y≠b->c y=d y)->c b=d b+g->mb c a=mb d a+g
 |[],_,i,_,_=>by grind
 |y::a,f,i,e,j=>by
  rw[kp] at f;rw[mb,mb];by_cases h:y=b
  ·grind [Sm]
  rw[e y h,Sn f.2 (by grind) e j];grind
theorem PH {n:X} (c:a<n):b∈jC n a↔a<=b+1/\b<n/\b<=a+1:=by grind [jC]
theorem Jw {n:X} {b:X×X}:b∈jB n a↔b.1<a/\b.2∈jC n b.1:=by unfold jB;grind
theorem Ru (n:X):∀m,(jB n m).Nodup
 |0=>List.nodup_nil
 |m+1=>by rw[Kr];have b:(jC n m).Nodup:=(by grind [List.nodup_range',jC]);refine ji.2 ⟨Ru n m,qE.2 (b.imp λa g=>a (by grind)),?_⟩;intro i f j c d;obtain⟨h,e,rfl⟩:=fe.1 c;simp_all [wP,Jw,absurd]
theorem BN {g:aj1} (i:g.Nodup) {E:X->X->ajU} (j:(a,b)∈g) (n:E a b=Y 0) (d:ajU) (e f:X->Rat):mb (λc=>e c.1*cJ (g2 E a b d c.1 c.2)*f c.2) g=mb (λc=>e c.1*cJ (E c.1 c.2)*f c.2) g+e a*cJ d*f b:=by
 refine Sn i j (λc k=>?_) ?_
 ·show e c.1*cJ (g2 E a b d c.1 c.2)*f c.2=e c.1*cJ (E c.1 c.2)*f c.2;have:g2 E a b d c.1 c.2=E c.1 c.2:=aw λh=>k (Prod.ext h.1 h.2);grind
 show e a*cJ (g2 E a b d a b)*f b=e a*cJ (E a b)*f b+e a*cJ d*f b;have l:g2 E a b d a b=d:=ax ⟨bo,bo⟩;have m:cJ (Y 0)=0:=rfl;grind
def kt (e:Z->Rat) (b c:X->Rat):bn aR->X->Rat
 |[],_=>0
 |q::ps,a=>(if q.aP.length=2 then e (q.d.getD 0 0)*(b a*c a)+e (q.d.getD 1 0)*(b (a+1)*c a+b a*c (a+1))+e (q.d.getD 2 0)*(b (a+1)*c (a+1)) else e (q.d.getD 0 0)*(b a*c a))+kt e b c ps (a+q.aP.length)
theorem He (b:Z->Rat) (c d:X->Rat) (e:aR):∀(ps:bn aR) (a:X),kt b c d (ps++[e]) a=kt b c d ps a+kt b c d [e] (a+(ps.flatMap aR.aP).length)
 |[],a=>by show kt b c d [e] a=0+kt b c d [e] (a+0);grind
 |p::ps,a=>by show _+kt b c d (ps++[e]) (a+p.aP.length)=(_+kt b c d ps (a+p.aP.length))+_;rw[He b c d e ps,r9,hW,wO];grind
section
variable {n:X} {ps:bn aR}
theorem LK (e:hb n ps):∀m,m<=ps.length->∀a b,(cK ps m<=a\/cK ps m<=b)->ij ps m a b=Y 0
 |0=>λ_ a b _=>rfl
 |m+1=>by
  intro h a b f;have c:m<ps.length:=aa;have g:=ru c;have i:=(e.gk c).1;have j:=LK e m aa a b aa;rw[ij,b0 c];dsimp only;by_cases d:ps[m].aP.length=2
  ·rw[ax d];unfold g2;grind
  rw[aw d];unfold g2;grind
theorem LJ (j:hb n ps) (k l:X->Rat):∀m,m<=ps.length->mb (λb=>k b.1*cJ (ij ps m b.1 b.2)*l b.2) (jB n n)=kt (λr=>cJ (bj r)) k l (ps.take m) 0
 |0,_=>by refine Sp λb _=>?_;show k b.1*cJ (Y 0)*l b.2=0;have v:cJ (Y 0)=0:=rfl;grind
 |m+1,x=>by
  have c:m<ps.length:=aa;have u:=LJ j k l m aa;have w:=j.vC c;have y:=(j.gk c).1;have p:=LK j m aa;have g:∀e f,e<n->f<n->e<=f+1->f<=e+1->(e,f)∈jB n n:=λe f o c s t=>Jw.2 ⟨o,(PH o).2 ⟨s,c,t⟩⟩;have h:=Ru n n;rw[mf c,He,<-u,mW,show((ps.take m).flatMap aR.aP).length=cK ps m from rfl];have q:ij ps (m+1)=if ps[m].aP.length=2 then g2 (g2 (g2 (g2 (ij ps m) (cK ps m) (cK ps m) (bj (ps[m].d.getD 0 0))) (cK ps m+1) (cK ps m) (bj (ps[m].d.getD 1 0))) (cK ps m) (cK ps m+1) (bj (ps[m].d.getD 1 0))) (cK ps m+1) (cK ps m+1) (bj (ps[m].d.getD 2 0))
   else g2 (ij ps m) (cK ps m) (cK ps m) (bj (ps[m].d.getD 0 0)):=by
   rw[ij,bk c]
  rw[q,kt,kt];generalize cK ps m=a at*;by_cases i:ps[m].aP.length=2
  ·rw[ax i,ax i];rw[BN h (g (a+1) (a+1) aa aa aa aa) (by simp_all [aw,g2]),BN h (g a (a+1) aa aa aa aa) (by simp_all [aw,g2]),BN h (g (a+1) a aa aa aa aa) (by simp_all [aw,g2]),BN h (g a a aa aa aa aa) (p _ _ aa)];grind
  rw[aw i,aw i];rw[BN h (g a a aa aa aa aa) (p _ _ aa)];grind
end
end
section
section
variable {σ ρ:Type} {f:σ->bw (σ⊕ρ)}
def hP {a s':σ} (b:f a=Y (.inl s')):loop f a=loop f s':=by
 conv=>lhs;rw[Jo]
 rw[b]
def ia {b:σ} {a:ρ} (c:f b=Y (.inr a)):loop f b=Y a:=by rw[Jo,c]
end
def x0:cL:=([0,1],([2],([0,4607182418800017408,0],([0,0,0],([],([],(0,())))))))
def lN {b h:Type} {e:bn b} {c:Z} {v:b} (a:aj e c=Y v) (d:b->bw h):rd e c d=d v:=by
 unfold aj at a;split at a
 ·rename_i f;have g:=(hN.1 a).1;unfold rd bf;rw[ax ⟨f,g⟩,aI,ir a,aI]
 cases a
def ZG:bj 0=Y 0:=by decide
end
abbrev eU:Z:=4607182418800017408
def ae7:g4 2 2 [0,1,1] [1] [eU] where
 hr:=by decide
 hc:=by decide
 hi:=by decide
 hs:=by decide
 hv:=by decide
 hw:=λb a=>by rw[fg.1 a];exact⟨ab,ab⟩
def ae8:gn 2 2 [0,1,1] [1] [eU] where
 len:=rfl
 first:=rfl
 mono:=λb e=>by have:b=0\/b=1:=aa;rcases this with rfl|rfl<;>decide
 last:=rfl
 val:=rfl
 rng:=λb a e c d=>by
  have:b=0\/b=1:=aa;rcases this with rfl|rfl
  ·change(0:Z)<=a at c;change(a:Z)<1 at d;have:a=0:=aa;subst this;exact⟨ab,ab⟩
  change(1:Z)<=a at c;change(a:Z)<1 at d;omega
 asc:=λb a e c d=>by
  have:b=0\/b=1:=aa;rcases this with rfl|rfl
  ·change(0:Z)<a at c;change(a:Z)<1 at d;omega
  change(1:Z)<a at c;change(a:Z)<1 at d;omega
def SL:fQ 2 2 [0,1,1] [1] [eU]=0:=by refine jU.2 ⟨ae8,λa b=>?_⟩;have:a=0:=(by have:([eU]:aj0).length=1:=rfl;omega);subst this;decide
def tP:bn cT:=[(1,0,eU,())]
def SM:c3 [0,1,1] [1] [eU] 2=tP:=rfl
def Lb:iZ 2 (fK tP) [0,1]=It:=by decide
def Gk:bn df:=[(0,(2,([0,1],((-1:Z),()))))]
def ae6:hF It Gk:=by
 refine⟨⟨λa b=>?_,bo⟩,λa b=>?_,λa b=>?_,λh c i l=>?_⟩
 ·have b:a<1:=b;obtain rfl:a=0:=aa;exact⟨_,bo,bo,ab,ab⟩
 ·have j:a<1:=b;obtain rfl:a=0:=aa;refine⟨(by decide:2<=2),λc _ g d=>?_⟩;have g:c<2:=g;have:c=0\/c=1:=aa;rcases this with rfl|rfl
  ·exact⟨λ_=>rfl,λd=>absurd (show 2<=0 from d) ab⟩
  exact⟨λ_=>rfl,λd=>absurd (show 2<=1 from d) ab⟩
 ·have j:a<1:=b;obtain rfl:a=0:=aa;exact .inl ⟨bo,bo⟩
 have k:fa It:=(by rw[<-Lb];exact x8 _ _ _);obtain⟨e,f⟩:=i.lt k;have e:h<2:=e;have f:c<2:=f;obtain rfl:h=0:=aa;obtain rfl:c=1:=aa;decide
abbrev ae5:X->X->ajU:=h9 tP [0,1]
def ad8:lu (bj eU) 0=eU:=by rw[v1,ED (a:=0) ab ab];decide
def ad9:lu (bj 0) 0=0:=by rw[ZG];rfl
def WR {a:aR} {b c:X->Z} (g:a.rows=[]) (h:a.d=[0,eU,0]) (i:a.l=[b,c]) (e:a.aP=[0,1]):p3 [0,1] [a] 0=x0:=by unfold p3;have k:[a].flatMap aj7=[([],b),([],c)]:=(by rw[r9,an8,pB];unfold aj7;rw[i,g];rfl);have j:[a].flatMap aR.aP=[0,1]:=(by rw[r9,an8,pB,e]);have m:[a].flatMap (·.d)=[0,eU,0]:=(by rw[r9,an8,pB,h]);have n:[a].map (λa=>(a.aP.length:Z))=[2]:=(by rw[List.map_singleton,e];rfl);rw[k,j,m,n];generalize(λo=>([0,1]:ajZ).idxOf o)=f;have p:∀q:X->Z,me f []=[]:=λ_=>rfl;rfl
def acY (h:c.length<=9223372036854775807) (g j:Z) (k:bA):ae (DR (c,g,j,k,())) λw=>
 ∃(a:X) (e b f d:aj0) (i:iI),a<=5/\g4 a a e b f/\d.length=a/\w=(((a:Z),(a:Z),e,b,f,()),d,i,())/\(jF a a e b f d=0->hF (iZ a (fK (c3 e b f a)) d) i):=by
 unfold DR;refine bB (A7 g (n:=6) ab ab) ?_;have y:=Fo g (n:=6) ab;dsimp only;generalize ts g 6=a at*;refine bF (TT h (aa:a<=5) (aa:a<=5) j) ?_;rintro⟨x,_⟩ r;dsimp only;refine bF (P:=λt=>r2 a a t.2.1) ?_ ?_
 ·cases k with
  |true=>
   rw[bH];refine bF (TC h (n:=a) aa j) ?_;rintro⟨p,_⟩ q;exact bv.2 q
  |false=>
   rw[bR];exact bv.2 r
 rintro⟨_,p,_⟩ l;dsimp only at l|-;refine bF (T4 h (n:=a) aa) ?_;rintro⟨d,_⟩ m;dsimp only at m|-;obtain⟨e,b,f,rfl,ay,u,v⟩:=l.ex;have o:=r2.small (aa:a<=5) (aa:a<=5) ay u v;refine bF (Xo (aa:a<=5) o h) ?_;rintro _ ⟨i,rfl,_,_,s⟩;exact bv.2 ⟨a,e,b,f,d,i,aa,o,m,bo,s⟩
section
def N5 (e:∀d∈c,cS d≠2047) (b:X):cS (c.getD b 0)≠2047:=by
 rcases cR b c.length with a|a
 ·rw[iY a];exact e _ (cG a)
 rw[n3,pE a];show cS 0≠2047;decide
def FL {D:X} (a:D=65536):iz 1=Y (1*2^D)/\bj eU=Y (1*2^D):=⟨I1 (n:=1) ab a,by rw[a];exact v1⟩
def cF.eV {D d:X} {l:ew} (e:∀c∈l,cF D d b a c):kN l=bp/\iC (D-d) (hx l)/\(hx l).natAbs<=l.length*(a*2^(D+b)):=by
 induction l with
 |nil=>exact⟨bo,iC.zero _,by simp[hx]⟩
 |cons c l j=>
  obtain⟨i1,i,o⟩:=j λc h=>e c (g3 _ h);obtain⟨k,rfl,g,n⟩:=e c (mr ..);refine⟨by simp[kN,i1],g.add i,?_⟩;show(k+hx l).natAbs<=(l.length+1)*(a*2^(D+b));generalize a*2^(D+b)=f at*;rw[kq,jL];generalize l.length*f=m at*;omega
theorem SV {T:X×X->ajU} {f:X×X->Rat} {s:Rat}:∀{l:aj1},(∀x∈l,cJ (T x)*s=f x)->((hx (l.map T):Z):Rat)*s=mb f l
 |[],_=>by show((0:Z):Rat)*s=0;rw[show((0:Z):Rat)=0 from rfl];grind
 |x::l,a=>by have d:=SV (T:=T) (f:=f) (s:=s) (l:=l) λe c=>a e (g3 _ c);have b:=a x (mr ..);show(((T x).getD 0+hx (l.map T):Z):Rat)*s=f x+mb f l;rw[apr,<-d,<-b];unfold cJ;grind
def aeC (a:ajU):(0<kn a↔0<a.getD 0)/\(kn a<0↔a.getD 0<0):=by
 unfold kn gS;split
 ·omega
 split<;>omega
def Wb {D:X} (d:D=65536) {a b c:Z} (p:cS a≠2047) (i:cS b≠2047) (q:cS c≠2047):∃j f e g:Z,kw [a,b,c]=Y j/\bj a=Y f/\bj b=Y e/\bj c=Y g/\j*2^D=f*g-e*e:=by
 obtain⟨s,f,g,u,ao,l,m,n⟩:=(aj6 d p).mul d (aj6 d q) ab ab ab;obtain⟨t,e,k,v,h,f2,o,f4⟩:=(aj6 d i).mul d (aj6 d i) ab ab ab;obtain rfl:e=k:=gb (h.symm.trans f2);have r:=(am4 d ab s t.neg ab).2;refine⟨u-v,f,e,g,?_,ao,h,l,?_⟩
 ·show gO (fD (bj a) (bj c)) (jo (fD (bj b) (bj b)))=_;rw[r,m,o];rfl
 rw[Int.sub_mul,n,f4]
theorem adA {b c a:Rat} (f:0<a) (h:b*(a*a)=c*(a*a)):b=c:=by
 have d:=Rat.mul_pos f f;have g:(b-c)*(a*a)=0:=(by grind);rcases Rat.mul_eq_zero.1 g with e|e
 ·grind
 rw[e] at d;exact absurd d ab
def adB (a:X):(0:Rat)<(((2:Z)^a:Z):Rat):=Rat.intCast_pos.2 (mS ab)
section
variable {n D:X} {ps:bn aR} {F:cL}
def Cq (b:D=65536) (c:hk n ps F) {i:X} (k:a<n):cF D 1074 1024 1 (ga ps i a):=by
 unfold ga;by_cases d:i=a
 ·rw[ax d,(FL b).1,<-(FL b).2];exact aj6 b ab
 rw[cw d];obtain⟨m,o,e,l,rfl⟩:=c.ok.eB k;obtain⟨f,h,g⟩:=c.ok.xk e l;rw[g];dsimp only;split
 ·rename_i j;exact aj6 b ((c.ok.hu _ (cG e)).fin f h _ j)
 exact an9
def BZ {E:X->X->ajU} (e:∀c d,cF D 1074 1024 1 (E c d)) (g:cF D 1074 1024 1 f):∀c d,cF D 1074 1024 1 (g2 E a b f c d):=λc d=>by
 unfold g2;split
 ·exact g
 exact e c d
def Ci (c:D=65536) (b:hk n ps F):∀m f g,cF D 1074 1024 1 (ij ps m f g)
 |0=>λf g=>an9
 |m+1=>by
  rw[ij];by_cases i:m<ps.length
  ·rw[b0 i];dsimp only;have j:=(b.ok.k _ (b5 i)).Ep;have a:∀e,cF D 1074 1024 1 (bj (ps[m].d.getD e 0)):=λe=>aj6 c (N5 j e);by_cases h:ps[m].aP.length=2
   ·rw[ax h];exact BZ (BZ (BZ (BZ (Ci c b m) (a 0)) (a 1)) (a 1)) (a 2)
   rw[aw h];exact BZ (Ci c b m) (a 0)
  rw[pE aa];exact Ci c b m
theorem Rv (e:D=65536) {d:Rat} (s:d=(((2:Z)^D:Z):Rat)) (h:hk n ps F) (S:n<=5) (Q:a<n) (R:b<n):∃g:Z,lq ps n a b=Y g/\iC (D-3222) g/\g.natAbs<=15*2^(D+3072)/\(g:Rat)*(d*d)=kt (λC=>cJ (bj C)) (λk=>cJ (ga ps a k)) (λm=>cJ (ga ps b m)) ps 0:=by
 have t:∀c∈jB n n,cF D 3222 3072 1 (oJ ps n a b c)/\cJ (oJ ps n a b c)*(d*d)=cJ (ga ps a c.1)*cJ (ij ps ps.length c.1 c.2)*cJ (ga ps b c.2):=λc f=>(by obtain⟨u,j⟩:=Jw.1 f;have j:=((PH u).1 j).2.1;obtain⟨J,p,q,o,ao,z,A,B⟩:=(Cq e h (i:=a) u).mul e (Ci e h ps.length c.1 c.2) ab ab ab;obtain⟨K,y,r,x,E,f2,G,f4⟩:=J.mul e (Cq e h (i:=b) j) ab ab ab;refine⟨K,?_⟩;obtain rfl:o=y:=gb (A.symm.trans E);have L:(o:Rat)*d=(p:Rat)*(q:Rat):=(by rw[s,<-uv,<-uv,B]);have M:(x:Rat)*d=(o:Rat)*(r:Rat):=(by rw[s,<-uv,<-uv,f4]);show cJ (fD (fD (ga ps a c.1) (ij ps ps.length c.1 c.2)) (ga ps b c.2))*(d*d)=_;rw[G,ao,z,f2];show(x:Rat)*(d*d)=(p:Rat)*(q:Rat)*(r:Rat);rw[<-L,<-aps,M];grind);have I:(jB n n).length<=15:=di (FSq n n) aa;obtain⟨N,O,v⟩:=cF.eV (l:=(jB n n).map (oJ ps n a b)) λP H=>(by obtain⟨c,f,rfl⟩:=fe.1 H;exact(t c f).1);rw[eM] at v;have w:(hx ((jB n n).map (oJ ps n a b))).natAbs<=15*2^(D+3072):=di v (by rw[jL];exact hR _ I);refine⟨_,?_,O,w,?_⟩
 ·unfold lq k2;rw[ax N];unfold om;rw[ax (akQ e ab ab w)]
 rw[SV λc f=>(t c f).2];exact(LJ h.ok (λk=>cJ (ga ps a k)) (λm=>cJ (ga ps b m)) ps.length (bd _)).trans (by rw[hm])
end
def WS {A:X->X->ajU} (h:∀m o,c8 (A m o)) {f:eA} {a:bn df} {n:X} (e:hF f a) (d:f.length=n) (k:n<=12) (l:e2 c n):s4 A c a=(ja,233,())\/∃ps g,s4 A c a=(p3 c ps ((g:X):Z),0,())/\hk n ps (p3 c ps ((g:X):Z)):=by
 cases b:ka A a a.length with
 |none=>exact .inl (by unfold s4;rw[b])
 |some r=>
  obtain⟨j,ps⟩:=r;obtain⟨i1,i⟩:=x1 h e d (bd _) b;obtain⟨p,q⟩:=N9 h e d (bd _) b;have:hb n ps:=⟨i.all e d,i.hu,p,q⟩;exact .inr ⟨ps,ow j,by unfold s4;rw[b],this.Oc k l _⟩
end
section
abbrev zj:=bw (bn (Z×ik)×X)
theorem cF.ok {A d:X} (g:A=65536) (j:d<=60000) (i:b<1048576) (e:cF A a d b f):c8 f:=λk c=>by obtain⟨l,a,_,h⟩:=e;rw[a] at c;cases c;exact akQ g j i h
def qF (n:X) (Xa:X->ajU) (x:zj):Prop:=∀a,a<n->gy x (a:Z)=Y (az (Xa a))\/(gy x (a:Z)=bq/\Xa a=Y 0)
section
variable {n A:X} {ps:bn aR} {F:cL}
def Pw (m:hk n ps F) (z:a<n):∃x,xB (F,(a:Z),())=Y (x,())/\qF n (λb=>ga ps b a) x:=by
 obtain⟨t,i,d,f⟩:=m.MY z;have H:=f.le;have G:=m.nM;suffices w:ae (xB (F,(a:Z),())) λs=>qF n (λb=>ga ps b a) s.1 by obtain⟨⟨x,_⟩,v,q⟩:=w;exact⟨x,v,q⟩
 unfold xB;refine bB (AB ab ab) ?_;dsimp only;refine bB (y:=Y (kh [] (a:Z) (az (iz 1)),1)) rfl ?_;refine bB f.KV ?_;refine bF (P:=λs=>qF n (λb=>ga ps b a) s.1) ?_ (by rintro⟨x,_⟩ q;exact bv.2 q);refine bQ d.length (λc C=>∃h r,C=(((i+c:X):Z),Y (h,r),())/\∀b,b<n->fM h (b:Z)=if b=a then Y (az (iz 1)) else if(ps.flatMap aR.aP).getD b 0∈d.take c then Y (az (bj (t.2 ((ps.flatMap aR.aP).getD b 0)))) else bq) ⟨_,_,bo,λb k=>?_⟩ ?_ ?_
 ·rw[Ff];by_cases e:b=a
  ·rw[ax aa,ax e]
  rw[aw aa,aw e,amS,aw ac];rfl
 ·rintro c _ o ⟨h,r,rfl,p⟩;obtain⟨D,E⟩:=f.h2 c o;obtain⟨I,J,B,aL,K⟩:=f.row d[c] ((f.mem _).1 (b5 o));dsimp only;rw[show aH (a:Z)=((a+1:X):Z) from ba aa];refine bB f.s1 ?_;rw[aQ (aJ (aa:((i+c:X):Z)<((i+d.length:X):Z)))];refine bB D (bB E (bB (Bd aL) ?_));dsimp only;rw[show aH ((i+c:X):Z)=((i+c+1:X):Z) from ba aa];refine bB (y:=Y (kh h ((ps.flatMap aR.aP).idxOf d[c]:Z) (az (bj (t.2 d[c]))),_)) rfl ?_;refine bv.2 ⟨_,_,bo,λb k=>?_⟩;rw[Ff,p b k];by_cases e:b=(ps.flatMap aR.aP).idxOf d[c]
  ·have ao:=m.ok.getD B;rw[<-e] at ao;have A:d[c]∈d.take (c+1):=by
    rw[mf o];exact lD _ (fg.2 bo)
   rw[ax aa,aw aa,ao,ax A]
  rw[aw aa];by_cases g:b=a
  ·rw[ax g,ax g]
  rw[aw g,aw g];have u:(ps.flatMap aR.aP).getD b 0∈d.take (c+1)↔(ps.flatMap aR.aP).getD b 0∈d.take c:=(by rw[mf o,ha,fg];refine⟨λj=>j.elim (λa=>a) λa=>absurd ?_ e,.inl⟩;rw[<-a,m.ok.idx k]);by_cases l:(ps.flatMap aR.aP).getD b 0∈d.take c
  ·rw[ax l,ax (u.2 l)]
  rw[aw l,aw (λj=>l (u.1 j))]
 rintro _ ⟨h,r,rfl,p⟩;dsimp only;rw[show aH (a:Z)=((a+1:X):Z) from ba aa];refine bB f.s1 ?_;rw[aM (aC (aa:¬((i+d.length:X):Z)<((i+d.length:X):Z)))];refine bv.2 λb k=>?_;show fM h (b:Z)=Y (az (ga ps b a))\/(fM h (b:Z)=bq/\ga ps b a=Y 0);rw[p b k,cy];unfold ga;by_cases e:b=a
 ·rw[ax e,ax e];exact .inl bo
 rw[cw e,cw e,f.cs];dsimp only;by_cases g:(ps.flatMap aR.aP).getD b 0∈d
 ·rw[ax g,ax ((f.mem _).1 g)];exact .inl bo
 rw[aw g,aw (λj=>g ((f.mem _).2 j))];exact .inr ⟨bo,bo⟩
end
section
variable {n:X} {x y:zj} {d:ajU} {Xa Ya:X->ajU} {T:X->ew}
def h5 (n:X) (x y:zj) (d:ajU) (Xa Ya:X->ajU) (T:X->ew) (b c a:X):ew:=
 if(a %n<b\/(a %n=b/\a/n<c))/\((gy x ((a %n:X):Z)).isSome&&(gy y ((a/n:X):Z)).isSome)=bp then T a++[fD (fD (Xa (a %n)) d) (Ya (a/n))] else T a
def afp (b c a:X):(h5 n x y d Xa Ya T b c a).length<=(T a).length+1:=by
 unfold h5;split
 ·rw[hW,qC];omega
 omega
def acP (C:n<=5) (M:qF n Xa x) (N:qF n Ya y) (J:c8 d) (H:∀b,b<n->c8 (Xa b)) (I:∀b,b<n->c8 (Ya b)) (G:∀a,a<n*n->(T a).length<=1000):sE (x,y,az d,Y (n:Z),aF (n*n) (λa=>(T a).map az),())=Y (aF (n*n) (λa=>(h5 n x y d Xa Ya T n 0 a).map az),()):=by
 have am:=pt C;refine bN.1 ?_;unfold sE;dsimp only;rw[bM];refine bF (P:=λs=>s=(aF (n*n) (λa=>(h5 n x y d Xa Ya T n 0 a).map az),())) ?_ (by rintro _ rfl;exact bv.2 bo);refine bQ n (λb t=>t=((b:Z),aF (n*n) (λa=>(h5 n x y d Xa Ya T b 0 a).map az),())) ?_ ?_ ?_
 ·have:(λa=>(h5 n x y d Xa Ya T 0 0 a).map az)=λa=>(T a).map az:=by
   funext a;unfold h5;rw[aw (λo=>o.1.elim (zk _) λf=>zk _ f.2)]
  rw[this];rfl
 ·rintro b _ h rfl;dsimp only;rw[aQ (aJ (aa:(b:Z)<(n:Z))),bM,show aH (b:Z)=((b+1:X):Z) from ba aa];refine bF (P:=λs=>s=(aF (n*n) (λa=>(h5 n x y d Xa Ya T (b+1) 0 a).map az),())) ?_ (by rintro _ rfl;exact bv.2 bo);refine bQ n (λc t=>t=((c:Z),aF (n*n) (λa=>(h5 n x y d Xa Ya T b c a).map az),())) rfl ?_ ?_
  ·rintro c _ i rfl;obtain⟨w,z⟩:=AC (n:=n) (j:=c) h;have k:=CK i h;have U:=G _ k;have S:=afp (n:=n) (x:=x) (y:=y) (d:=d) (Xa:=Xa) (Ya:=Ya) (T:=T) b c (c*n+b);dsimp only;rw[aQ (aJ (aa:(c:Z)<(n:Z))),show aH (c:Z)=((c+1:X):Z) from ba aa];refine bB (y:=(aF (n*n) (λa=>(h5 n x y d Xa Ya T b (c+1) a).map az),())) ?_ (bv.2 bo);have D:∀a,a<n*n->a≠c*n+b->h5 n x y d Xa Ya T b (c+1) a=h5 n x y d Xa Ya T b c a:=λa g L=>by
    have ad:0<n:=aa;have K:a/n*n+a %n=a:=aoa a n;unfold h5;have m:(a %n<b\/(a %n=b/\a/n<c+1))↔(a %n<b\/(a %n=b/\a/n<c)):=by
     constructor
     ·rintro(f|⟨l,r⟩)
      ·exact .inl f
      refine .inr ⟨l,Nat.lt_of_le_of_ne (Nat.le_of_lt_succ r) λO=>L ?_⟩;rw[<-K,l,O]
     rintro(f|⟨l,r⟩)
     ·exact .inl f
     exact .inr ⟨l,Nat.lt_succ_of_lt r⟩
    simp only[m]
   have A:h5 n x y d Xa Ya T b c (c*n+b)=T (c*n+b):=(by unfold h5;rw[w,z,aw aa]);have B:h5 n x y d Xa Ya T b (c+1) (c*n+b)=if((gy x (b:Z)).isSome&&(gy y (c:Z)).isSome)=bp then T (c*n+b)++[fD (fD (Xa b) d) (Ya c)] else T (c*n+b):=by
    unfold h5;rw[w,z];by_cases e:((gy x (b:Z)).isSome&&(gy y (c:Z)).isSome)=bp
    ·rw[ax ⟨.inr ⟨bo,aa⟩,e⟩,ax e]
    rw[aw (λo=>e o.2),aw e]
   refine af (y:=((gy x (b:Z)).isSome&&(gy y (c:Z)).isSome,aF (n*n) (λa=>(h5 n x y d Xa Ya T b c a).map az),(gy x (b:Z)).getD (br,(br,[],()),0,()),(gy y (c:Z)).getD (br,(br,[],()),0,()),())) ?_ ?_
   ·cases(gy x (b:Z)).isSome
    ·rfl
    rfl
   dsimp only;cases q:((gy x (b:Z)).isSome&&(gy y (c:Z)).isSome) with
   |false=>
    rw[bR];have:aF (n*n) (λa=>(h5 n x y d Xa Ya T b (c+1) a).map az)=aF (n*n) (λa=>(h5 n x y d Xa Ya T b c a).map az):=eD λa g=>by
     by_cases e:a=c*n+b
     ·rw[e,A,B,q,aw ab]
     rw[D a g e]
    rw[this]
   |true=>
    obtain⟨u,v⟩:=Bool.and_eq_true_iff.1 q;have E:gy x (b:Z)=Y (az (Xa b)):=(M b h).resolve_right λf=>(by rw[f.1] at u;cases u);have F:gy y (c:Z)=Y (az (Ya c)):=(N c i).resolve_right λf=>(by rw[f.1] at v;cases v);have p:(aF (n*n) (λa=>(h5 n x y d Xa Ya T b c a).map az))[c*n+b]?=Y ((T (c*n+b)).map az):=(by rw[j9 k,A]);rw[bH,bM,bM,E,F,Lv C i h];refine af (fB (by rw[cN];exact k)) (af (q8 (H b h) J) (af (q8 (na _ _) (I c i)) ?_));dsimp only;refine af (ir p) ?_;rw[eC (by rw[b9,am0];omega),bM];refine af (fB (by rw[cN];exact k)) ?_;rw[aQ ac];refine af (ir p) (af (ir p) ?_);have:(aF (n*n) (λa=>(h5 n x y d Xa Ya T b c a).map az)).set (c*n+b) ((T (c*n+b)).map az++[az (fD (fD (Xa b) d) (Ya c))])=aF (n*n) (λa=>(h5 n x y d Xa Ya T b (c+1) a).map az):=by
     rw[hI];refine eD λa g=>?_;by_cases e:a=c*n+b
     ·subst e;rw[g9,B,q,ax bo,j4];rfl
     rw[hL _ _ e,D a g e]
    rw[this]
  rintro _ rfl;dsimp only;rw[aM (aC (aa:¬((n:Z)<(n:Z))))];have:aF (n*n) (λa=>(h5 n x y d Xa Ya T b n a).map az)=aF (n*n) (λa=>(h5 n x y d Xa Ya T (b+1) 0 a).map az):=eD λa g=>(by have V:a/n<n:=am5 g;have m:(a %n<b\/(a %n=b/\a/n<n))↔(a %n<b+1\/(a %n=b+1/\a/n<0)):=(by generalize a %n=Q;generalize a/n=R at*;omega);unfold h5;simp only[m]);rw[this];exact bv.2 bo
 rintro _ rfl;dsimp only;rw[aM (aC (aa:¬((n:Z)<(n:Z))))];exact bv.2 bo
end
section
variable {n A:X} {ps:bn aR} {F:cL} {P:Rat}
theorem adf (h:A=65536) (i:P=(((2:Z)^A:Z):Rat)) {d a:ajU} (q:cF A 1074 1024 1 f) (s:cF A 1074 1024 1 d) (r:cF A 1074 1024 1 a):cF A 3222 3072 1 (fD (fD f d) a)/\cJ (fD (fD f d) a)*(P*P)=cJ f*cJ d*cJ a:=by obtain⟨t,c,e,b,ao,l,m,n⟩:=q.mul h s ab ab ab;obtain⟨u,k,g,j,o,f2,p,f4⟩:=t.mul h r ab ab ab;refine⟨u,?_⟩;obtain rfl:b=k:=gb (m.symm.trans o);have v:(b:Rat)*P=(c:Rat)*(e:Rat):=(by rw[i,<-uv,<-uv,n]);have w:(j:Rat)*P=(b:Rat)*(g:Rat):=(by rw[i,<-uv,<-uv,f4]);rw[p,ao,l,f2];show(j:Rat)*(P*P)=(c:Rat)*(e:Rat)*(g:Rat);rw[<-v,<-aps,w];grind
def o2 (A:X) (P b:Rat) (c:X) (a:ew):Prop:=a.length<=c/\(∀d∈a,cF A 3222 3072 1 d)/\((hx a:Z):Rat)*(P*P)=b
theorem o2.next (n:A=65536) (p:P=(((2:Z)^A:Z):Rat)) {j:Rat} {c e:ew} {d b:ajU} (m:o2 A P j a c) (q:cF A 1074 1024 1 f) (s:cF A 1074 1024 1 d) (r:cF A 1074 1024 1 b) (o:e=c++[fD (fD f d) b]\/(e=c/\(f=Y 0\/b=Y 0))):o2 A P (j+cJ f*cJ d*cJ b) (a+1) e:=by
 obtain⟨x,k,h⟩:=m;rcases o with rfl|⟨rfl,u⟩
 ·obtain⟨v,w⟩:=adf n p q s r;refine⟨by rw[hW,qC];omega,λg t=>?_,?_⟩
  ·rcases ha.1 t with i|i
   ·exact k g i
   rw[fg.1 i];exact v
  rw[SU];have g:hx [fD (fD f d) b]=(fD (fD f d) b).getD 0:=(by show _+(0:Z)=_;omega);rw[g,apr,<-h,<-w];unfold cJ;grind
 refine⟨aa,k,?_⟩;have l:cJ (Y 0)=0:=rfl;rcases u with rfl|rfl
 ·rw[h,l];grind
 rw[h,l];grind
def afo {x y:zj} {d:ajU} {Xa Ya:X->ajU} {T:X->ew} (f:b<n) (k:a<n) (l:qF n Xa x) (m:qF n Ya y):h5 n x y d Xa Ya T n 0 (a*n+b)=T (a*n+b)++[fD (fD (Xa b) d) (Ya a)]\/(h5 n x y d Xa Ya T n 0 (a*n+b)=T (a*n+b)/\(Xa b=Y 0\/Ya a=Y 0)):=by
 obtain⟨g,h⟩:=AC (n:=n) (j:=a) f;unfold h5;rw[g,h];by_cases e:((gy x (b:Z)).isSome&&(gy y (a:Z)).isSome)=bp
 ·rw[ax ⟨.inl f,e⟩];exact .inl bo
 rw[aw (λi=>e i.2)];refine .inr ⟨bo,?_⟩;rcases l b f with ao|⟨_,ao⟩
 ·rcases m a k with c|⟨_,c⟩
  ·exact absurd (by rw[ao,c];rfl) e
  exact .inr c
 exact .inl ao
theorem o2.len {S:Rat} {T:X->ew} (i:∀c d,c<n->d<n->o2 A P (e c d) a (T (d*n+c))) (j:a<=1000):∀b,b<n*n->(T b).length<=1000:=λb g=>by have k:0<n:=aob λh=>(by rw[h] at g;omega);have f:=i (b %n) (b/n) (ak8 _ k) (am5 g);rw[aoa b n] at f;exact di f.1 j
def FN (g:A=65536) (r:P=(((2:Z)^A:Z):Rat)) (t:n<=5) {x y:zj} {d:ajU} {Xa Ya:X->ajU} (p:qF n Xa x) (q:qF n Ya y) (o:cF A 1074 1024 1 d) (l:∀b,b<n->cF A 1074 1024 1 (Xa b)) (m:∀b,b<n->cF A 1074 1024 1 (Ya b)) {T:X->ew} (k:∀b c,b<n->c<n->o2 A P (e b c) a (T (c*n+b))) (s:a<=1000):∃j:X->ew,sE (x,y,az d,Y (n:Z),aF (n*n) (λi=>(T i).map az),())=Y (aF (n*n) (λi=>(j i).map az),())/\∀b c,b<n->c<n->o2 A P (e b c+cJ (Xa b)*cJ d*cJ (Ya c)) (a+1) (j (c*n+b)):=
 ⟨_,acP t p q (o.ok g ab ab) (λb f=>(l b f).ok g ab ab) (λb f=>(m b f).ok g ab ab) (o2.len (S:=0) k s),λb c f h=>(k b c f h).next g r (l b f) o (m c h) (afo f h p q)⟩
theorem Pb (f:hk n ps F) (o:n<=5):sD (F,())=Y (((n:Z),(n:Z),aF (n*n) (λb=>az (lq ps n (b %n) (b/n))),()),0,()):=by
 obtain⟨A,j⟩:∃A:X,A=65536:=⟨_,bo⟩;obtain⟨P,p⟩:∃P:Rat,P=(((2:Z)^A:Z):Rat):=⟨_,bo⟩;have av:0<P:=(by rw[p];exact adB A);have d5:=pt o;obtain⟨bx,_,_,d7,_⟩:=f.small;unfold sD;refine af (E8 f) ?_;dsimp only;rw[aM (by rfl),a5,bx,aM (aC (aa:¬((n:Z)>64))),Ti o];refine af (iP aa) (af (Ro f) ?_);dsimp only;refine af (Ib f) ?_;dsimp only;refine bN.1 ?_;generalize d6:(((0:Z),((0:Z),(([]:bn ik),()))):gN)=t;refine bF (P:=λs=>∃T:X->ew,s=(t,(n:Z),aF (n*n) (λb=>(T b).map az),())/\∀a e,a<n->e<n->o2 A P (kt (λg=>cJ (bj g)) (λh=>cJ (ga ps a h)) (λi=>cJ (ga ps e i)) ps 0) (4*ps.length) (T (e*n+a))) ?_ ?_
 ·refine bQ ps.length (λc H=>∃T:X->ew,H=((c:Z),t,(n:Z),aF (n*n) (λb=>(T b).map az),ps.map iN,())/\∀a e,a<n->e<n->o2 A P (kt (λg=>cJ (bj g)) (λh=>cJ (ga ps a h)) (λi=>cJ (ga ps e i)) (ps.take c) 0) (4*c) (T (e*n+a))) ?_ ?_ ?_
  ·refine⟨λ_=>[],?_,λa e _ _=>⟨c5 _,λd l=>(by cases l),?_⟩⟩
   ·rw[jY];rfl
   show((0:Z):Rat)*(P*P)=0;rw[show((0:Z):Rat)=0 from rfl];grind
  ·rintro c _ m ⟨T,rfl,q⟩;have d4:=f.ok.vC m;obtain⟨C,d9,ek⟩:=f.ok.gk m;have a1:=(f.ok.k _ (cG m)).Ep;have l:∀a,cF A 1074 1024 1 (bj (ps[c].d.getD a 0)):=λa=>aj6 j (N5 a1 a);have w:∀a,a<ps[c].d.length->aj (iN ps[c]) (a:Z)=Y (az (bj (ps[c].d.getD a 0))):=λa r=>by
    unfold iN;rw[eR (by rw[eM];exact r),n4,iY r]
   have a3:ak (iN ps[c])=(ps[c].d.length:Z):=(by unfold iN;rw[a5,eM]);have M:cK ps c<n:=aa;obtain⟨x,d0,z⟩:=Pw f M;have u:∀a,a<n->cF A 1074 1024 1 (ga ps a (cK ps c)):=λa _=>Cq j f M;obtain⟨V,ce,S⟩:=FN j p o z z (l 0) u u q aa;have O:∀a e,kt (λg=>cJ (bj g)) (λh=>cJ (ga ps a h)) (λi=>cJ (ga ps e i)) (ps.take (c+1)) 0=kt (λg=>cJ (bj g)) (λh=>cJ (ga ps a h)) (λi=>cJ (ga ps e i)) (ps.take c) 0+
    kt (λg=>cJ (bj g)) (λh=>cJ (ga ps a h)) (λi=>cJ (ga ps e i)) [ps[c]] (cK ps c):=λa e=>by
    rw[mf m,He,mW];rfl
   dsimp only;rw[a5,b9,aQ (aJ (aa:(c:Z)<(ps.length:Z))),show aH (c:Z)=((c+1:X):Z) from ba aa];refine bF (P:=λs=>∃T:X->ew,s=(t,(n:Z),aF (n*n) (λb=>(T b).map az),ps.map iN,())/\∀a e,a<n->e<n->o2 A P (kt (λg=>cJ (bj g)) (λh=>cJ (ga ps a h)) (λi=>cJ (ga ps e i)) (ps.take (c+1)) 0) (4*(c+1)) (T (e*n+a))) ?_ (by
    rintro _ ⟨U,rfl,a0⟩;exact bv.2 ⟨U,bo,a0⟩)
   rw[jq (by rw[b9];exact m),amM];refine bB (Iw m) (bB d0 ?_);dsimp only;refine bB (w 0 aa) (bB ce ?_);dsimp only;rw[a3,gh];rcases C with C|C
   ·rw[aC (aa:¬((ps[c].d.length:Z)=3)),bR];refine bv.2 ⟨V,bo,λa e r E=>?_⟩;obtain⟨dg,I,J⟩:=S a e r E;refine⟨aa,I,?_⟩;rw[J,O,kt,aw aa];show _=_+(_+(0:Rat));grind
   have N:cK ps c+1<n:=aa;obtain⟨y,d1,B⟩:=Pw f N;have v:∀a,a<n->cF A 1074 1024 1 (ga ps a (cK ps c+1)):=λa _=>Cq j f N;obtain⟨d2,ci,co⟩:=FN j p o z B (l 1) u v S aa;obtain⟨d3,cs,cv⟩:=FN j p o B z (l 1) v u co aa;obtain⟨ad,c1,c2⟩:=FN j p o B B (l 2) v v cv aa;rw[aJ (aa:((ps[c].d.length:Z)=3)),bH];refine bB (Iw m) ?_;rw[show aH (cK ps c:Z)=((cK ps c+1:X):Z) from ba aa];refine bB d1 ?_;dsimp only;refine bB (w 1 aa) (bB ci ?_);dsimp only;refine bB (w 1 aa) (bB cs ?_);dsimp only;refine bB (w 2 aa) (bB c1 ?_);dsimp only;refine bv.2 ⟨ad,bo,λa e r E=>?_⟩;obtain⟨dg,I,J⟩:=c2 a e r E;refine⟨aa,I,?_⟩;rw[J,O,kt,cc C];show _=_+(_+(0:Rat));grind
  rintro _ ⟨T,rfl,q⟩;dsimp only;rw[a5,b9,aM (aC (aa:¬((ps.length:Z)<(ps.length:Z))))];rw[cy] at q;exact bv.2 ⟨T,bo,q⟩
 rintro _ ⟨T,rfl,q⟩;dsimp only;refine bF (P:=λs=>s=(t,((n:Z),(n:Z),aF (n*n) (λb=>az (lq ps n (b %n) (b/n))),()),())) ?_ (by rintro _ rfl;exact bv.2 bo);refine bQ (n*n) (λb H=>H=((b:Z),t,aF (n*n) (λb=>(T b).map az),((n:Z),(n:Z),aF b (λb=>az (lq ps n (b %n) (b/n))),()),())) rfl ?_ ?_
 ·rintro b _ G rfl;have a4:0<n:=aob λam=>(by rw[am] at G;omega);have Q:=ak8 b a4;have R:=am5 G;obtain⟨ap,D,L⟩:=q (b %n) (b/n) Q R;rw[aoa b n] at ap D L;obtain⟨K,v1,nh,dl,v4⟩:=Rv j p f o Q R;obtain⟨ds,d8,eS⟩:=cF.eV D;have bl:k2 (T b)=lq ps n (b %n) (b/n):=by
   have ao:hx (T b)=K:=Rat.intCast_inj.1 (adA av (L.trans v4.symm));have an:fv K:=akQ j ab ab dl;unfold k2 om;rw[v1,ax ds,ao,ax an]
  dsimp only;rw[a5,cN,aQ (aJ (aa:(b:Z)<((n*n:X):Z))),show aH (b:Z)=((b+1:X):Z) from ba aa,jq (by rw[cN];exact G),jX];refine bB (Wk (λd l=>(D d l).ok j ab ab) aa) ?_;dsimp only;rw[bl,eC (by rw[cN,am0];omega),bM];refine bv.2 ?_;show _=_;rw[ri]
 rintro _ rfl;dsimp only;rw[a5,cN,aM (aC (aa:¬(((n*n:X):Z)<((n*n:X):Z))))];exact bv.2 bo
end
end
section
section
variable {n A:X} {B:X->X->ajU} {Q:X->ajU}
def Eu (B:X->X->ajU) (Q:X->ajU) (n a:X):ajU:=nz (gO (B (a %n) (a/n)) (jo (Q a)))
def i9 (B:X->X->ajU) (Q:X->ajU) (n:X):X->Z
 |0=>0
 |t+1=>if i9 B Q n t<(Eu B Q n t).getD 0 then(Eu B Q n t).getD 0 else i9 B Q n t
def Ii (j:A=65536) (i:∀k l,cF A 1074 1024 1 (B k l)) (d:cF A 3222 3072 15 (Q a)):∃b,Eu B Q n a=Y b/\b.natAbs<=16*2^(A+3072)/\b=((B (a %n) (a/n)).getD 0-(Q a).getD 0).natAbs:=by
 have h:cF A 3222 3072 1 (B (a %n) (a/n)):=(i _ _).mono ab ab ab;obtain⟨⟨m,ao,_,e⟩,c⟩:=am4 j ab h d.neg ab;refine⟨(m.natAbs:Z),?_,e,?_⟩
 ·unfold Eu;rw[ao];rfl
 rw[ao] at c;have f:=gb c;have g:(jo (Q a)).getD 0=-(Q a).getD 0:=(by rw[d.val];rfl);rw[f,g,Int.sub_eq_add_neg]
def Fp (c:A=65536) (b:∀h i,cF A 1074 1024 1 (B h i)) {a:X} (d:∀t,t<a->cF A 3222 3072 15 (Q t)):∀t,t<=a->(i9 B Q n t).natAbs<=16*2^(A+3072)
 |0,_=>c5 _
 |t+1,f=>by
  obtain⟨j,g,e,_⟩:=Ii (n:=n) c b (d t f);unfold i9;rw[g];split
  ·exact e
  exact Fp c b d t aa
def acM (b:A=65536) (t:n<=5) (g:∀v w,cF A 1074 1024 1 (B v w)) (h:∀a,a<n*n->cF A 3222 3072 15 (Q a)) {j:nv} (p:qV (d,())=Y (0,())) (q:uP (j,d.1,())=Y (((n:Z),(n:Z),kk B n,()),0,())) (r:sD (d,())=Y (((n:Z),(n:Z),aF (n*n) (λa=>az (Q a)),()),0,())):uX (j,d,())=Y (az (Y (i9 B Q n (n*n))),0,()):=by
 have D:=pt t;unfold uX;refine af p ?_;dsimp only;rw[aM (by rfl)];refine af q ?_;dsimp only;rw[aM (by rfl)];refine af r ?_;dsimp only;refine af (AB ab ab) ?_;dsimp only;rw[XV];refine bN.1 ?_;generalize E:((br,((br,([],())),((0:Z),()))):cP)=i;refine bF (P:=λz=>z=(i,az (Y (i9 B Q n (n*n))),())) ?_ (by rintro _ rfl;exact bv.2 bo);refine bQ (n*n) (λa C=>C=((a:Z),i,((n:Z),(n:Z),kk B n,()),((n:Z),(n:Z),aF (n*n) (λa=>az (Q a)),()),az (Y (i9 B Q n a)),())) rfl ?_ ?_
 ·rintro a _ e rfl;obtain⟨f,k,u,_⟩:=Ii (n:=n) b g (h a e);have s:=Fp (n:=n) b g h a aa;dsimp only;rw[aQ (aJ (show(a:Z)<ak (kk B n) by rw[a5];unfold kk;rw[cN];omega)),ba aa];have ao:aj (kk B n) (a:Z)=Y (az (B (a %n) (a/n))):=(by unfold kk;rw[eR (by rw[cN];exact e),jX]);have m:aj (aF (n*n) (λa=>az (Q a))) (a:Z)=Y (az (Q a)):=fu (j9 e);refine bB (y:=(i,((n:Z),(n:Z),kk B n,()),((n:Z),(n:Z),aF (n*n) (λa=>az (Q a)),()),az (Y (i9 B Q n (a+1))),())) ?_ (bv.2 bo);refine af ao (af m (af (Ih ((g _ _).ok b ab ab) ((h a e).ok b ab ab)) ?_));dsimp only;refine af (V1 (og _ _)) ?_;have l:nz (gO (B (a %n) (a/n)) (jo (Q a)))=Y f:=k;rw[l];dsimp only;refine af (H9 (akQ b ab ab u) (akQ b ab ab s)) ?_;have o:i9 B Q n (a+1)=if i9 B Q n a<f then f else i9 B Q n a:=by
   rw[i9,k];rfl
  dsimp only;rw[cW,o];by_cases c:i9 B Q n a<f
  ·rw[ax ((M6 _ _).2 c),ax c]
  rw[aw (λx=>c ((M6 _ _).1 x)),aw c]
 rintro _ rfl;dsimp only;rw[aM (aC (show¬((n*n:X):Z)<ak (kk B n) by rw[a5];unfold kk;rw[cN];omega))];exact bv.2 bo
def adq (b:A=65536) (t:n<=5) (g:∀v w,cF A 1074 1024 1 (B v w)) (h:∀a,a<n*n->cF A 3222 3072 15 (Q a)) {i:nv} (o:q3 (d,())=Y (0,())) (p:ve (i,d.1,())=Y (((n:Z),(n:Z),kk B n,()),0,())) (q:sU (d,())=Y (((n:Z),(n:Z),aF (n*n) (λa=>az (Q a)),()),0,())):vg (i,d,())=Y (az (Y (i9 B Q n (n*n))),0,()):=by
 have C:=pt t;unfold vg;refine af o ?_;dsimp only;rw[aM (by rfl)];refine af p ?_;dsimp only;rw[aM (by rfl)];refine af q ?_;dsimp only;refine af (y:=(az (Y (i9 B Q n (n*n))),())) ?_ bo;unfold H6;refine bN.1 ?_;dsimp only;refine bF (P:=λx=>x=(fh,az (Y (i9 B Q n (n*n))),())) ?_ (by rintro _ rfl;exact bv.2 bo);refine bQ (n*n) (λa z=>z=((a:Z),fh,az (Y (i9 B Q n a)),())) ?_ ?_ ?_
 ·show(_:Z×eP×eP×bt)=(_,fh,az (Y 0),());rw[<-AD];rfl
 ·rintro a _ f rfl;obtain⟨c,j,u,_⟩:=Ii (n:=n) b g (h a f);have s:=Fp (n:=n) b g h a aa;dsimp only;rw[aQ (aJ (show(a:Z)<ak (kk B n) by rw[a5];unfold kk;rw[cN];omega)),ba aa];have ao:aj (kk B n) (a:Z)=Y (az (B (a %n) (a/n))):=(by unfold kk;rw[eR (by rw[cN];exact f),jX]);have l:aj (aF (n*n) (λa=>az (Q a))) (a:Z)=Y (az (Q a)):=fu (j9 f);refine bB (y:=(fh,az (Y (i9 B Q n (a+1))),())) ?_ (bv.2 bo);refine af ao (af l (af (BD ((g _ _).ok b ab ab) ((h a f).ok b ab ab)) ?_));dsimp only;refine af (KF (og _ _)) ?_;have k:nz (gO (B (a %n) (a/n)) (jo (Q a)))=Y c:=j;rw[k];dsimp only;have r:sS (az (Y (i9 B Q n a)),az (Y c),())=Y (bu (i9 B Q n a<c),()):=by
   unfold sS;refine af (RL (akQ b ab ab s) (akQ b ab ab u)) ?_;dsimp only;rw[akd.2 (VC _ _)]
  refine af r ?_;have m:i9 B Q n (a+1)=if i9 B Q n a<c then c else i9 B Q n a:=by rw[i9,j];rfl
  dsimp only;rw[cW,m];by_cases e:i9 B Q n a<c
  ·rw[ax e,ax e]
  rw[aw e,aw e]
 rintro _ rfl;dsimp only;rw[aM (aC (show¬((n*n:X):Z)<ak (kk B n) by rw[a5];unfold kk;rw[cN];omega))];exact bv.2 bo
end
def P5:e2 [] 0:=⟨bo,λ_ a=>(by cases a),List.nodup_nil⟩
def Jc:qV (ja,())=Y (2,()):=by unfold qV;refine af (y:=.inr (2,())) ?_ bo;rw[aM ab];refine af (y:=(bp,())) (Ps (o:=[]) (n:=0) ab P5) ?_;dsimp only;rw[aM (by rfl),aM ab]
def Ky:q3 (ja,())=Y (2,()):=by
 classical
 unfold q3;refine af (y:=.inr (2,())) ?_ bo;rw[aM ab];refine af (y:=(bp,())) ((KA (o:=[]) (n:=0) ab ab).trans (by rw[aJ P5])) ?_;dsimp only;rw[aM (by rfl)];refine af (y:=(bp,())) ?_ bo;rw[aM ab]
def Cj (a:cL):Prop:=(∃n b,n<=5/\hk n b a)\/a=ja
def adc {n A:X} {c:bn aR} (j:A=65536) (i:hk n c d) (k:n<=5) (b:a<n*n):cF A 3222 3072 15 (lq c n (a %n) (a/n)):=by have l:0<n:=aob λf=>(by rw[f] at b;omega);obtain⟨e,ao,g,h,_⟩:=Rv j bo i k (ak8 a l) (am5 b);exact⟨e,ao,g,h⟩
def Ui (a:Cj d):∃c b,uY (d,())=Y (c,b,())/\xR (d,())=Y (c,b,()):=by
 rcases a with⟨n,f,e,a⟩|rfl
 ·exact⟨_,_,Pc a,adx a⟩
 refine⟨((0,0,0,()):jw),2,?_,?_⟩
 ·unfold uY;exact af Jc bo
 unfold xR;exact af Ky bo
def Ua (b:Cj d):∃a e,sD (d,())=Y (a,e,())/\sU (d,())=Y (a,e,())/\xH (a,a,())=Y (bp,()):=by
 obtain⟨A,f⟩:∃A:X,A=65536:=⟨_,bo⟩;rcases b with⟨n,g,c,b⟩|rfl
 ·have:=pt c;exact⟨_,_,Pb b c,RI b c,Sq aa (λh=>SK _)⟩
 refine⟨((0,0,[],()):gN),2,?_,?_,aet _ _⟩
 ·unfold sD;exact af Jc bo
 unfold sU;exact af Ky bo
def TR {f g:aj0} (o:a<=5) (m:g4 a b f c g) (e:Cj d):∃i u,uX (((a:Z),(b:Z),f,c,g,()),d,())=Y (i,u,())/\vg (((a:Z),(b:Z),f,c,g,()),d,())=Y (i,u,())/\u5 (i,i,())=Y (bp,()):=by
 obtain⟨A,h⟩:∃A:X,A=65536:=⟨_,bo⟩;have w:u5 (fh,fh,())=Y (bp,()):=(by rw[AD,<-Bc];exact KW (gj _));rcases e with⟨n,F,s,e⟩|rfl
 ·have C:=e.or.1;by_cases j:jF a b f c g d.1=0
  ·obtain⟨k,rfl,t⟩:=Gg j;obtain rfl:a=n:=(by rw[<-t.1,<-C]);have B:=(jU.1 k).1;have z:=(jU.1 k).2;have q:∀x y,cF A 1074 1024 1 (h9 (c3 f c g a) d.1 x y):=λx y=>aj6 h (afT (p1 B (EJ z)) _ _);have r:∀p,p<a*a->cF A 3222 3072 15 (lq F a (p %a) (p/a)):=λp D=>adc h e s D;have l:=Fp (n:=a) h q r (a*a) (bd _);exact⟨_,_,acM h o q r (E8 e) (T9 o m k t) (Pb e s),adq h o q r (FU e) (adu o m k t) (RI e s),KW λG E=>by
    cases E;exact akQ h ab ab l⟩
  have v:d.1.length<=1000000:=aa;have l:(jF a b f c g d.1 !=0)=bp:=(by rw[fq,aC j];rfl);refine⟨fh,jF a b f c g d.1,?_,?_,w⟩
  ·unfold uX;refine af (E8 e) ?_;dsimp only;rw[aM (by rfl)];refine af (T8 m v j) ?_;dsimp only;rw[aQ l];rfl
  unfold vg;refine af (FU e) ?_;dsimp only;rw[aM (by rfl)];refine af (adt m v j) ?_;dsimp only;rw[aQ l];rfl
 refine⟨fh,2,?_,?_,w⟩
 ·unfold uX;exact af Jc bo
 unfold vg;exact af Ky bo
end
section
structure w4 (z o q:ik):Prop where
 i0:o7 (0,())=Y (z,())
 yI:uU (z,0,())=Y (0,())
 Kx:uU (o,0,())=Y (eU,())
 f0:ou (0,())=Y (bp,())
 f1:ou (eU,())=Y (bp,())
 a0:sx (0,())=Y (0,())
 CD:sx (eU,())=Y (eU,())
 Fr:kP (0,())=Y (z,())
 rC:kP (eU,())=Y (o,())
 c:uS (o,z,())=Y (1,bp,())
 s:oo (o,())=Y (1,())
 l:xA (z,o,())=Y (br,())
 YL:la (z,o,())=Y (z,())
 PA:la (o,o,())=Y (o,())
 YM:la (z,z,())=Y (z,())
 d:sw (z,o,())=Y (q,())
def agw:∃q,w4 (az (bj 0)) (az (bj eU)) q:=by
 obtain⟨a,e⟩:∃a:X,a=65536:=⟨_,bo⟩;have m:c9 (0:Z):=⟨ab,ab⟩;have o:c9 eU:=⟨ab,ab⟩;have f:=gj 0;have d:=gj eU;have g:bj 0=Y 0:=Bc;have ao:=(FL e).2;have D:(0:Z)<2^a:=mS ab;have w:cF a 1074 1024 1 (bj eU):=aj6 e ab;have p:cF a 1074 1024 1 (Y 0):=an9;have r:∀n:Z,n.natAbs<1024->iz n=Y (n*2^a):=λn y=>I1 y e;have t:∀{j:ajU},cF a 1074 1024 1 j->fD (Y 0) j=Y 0:=λ{j} A=>(by obtain⟨_,v,x,z,ay,h,i,b⟩:=p.mul e A ab ab ab;cases ay;rw[px] at b;rw[i,(zc.1 b).resolve_right aa]);have s:∀{n:Z},n.natAbs<1024->fD (Y (n*2^a)) (bj eU)=Y (n*2^a):=λ{n} C=>by
  have l:cF a 0 10 1 (Y (n*2^a)):=⟨_,bo,⟨n,by rw[alY]⟩,by
   rw[lK,jL,jM,nn (2^a)];exact hR _ aa⟩
  obtain⟨_,v,x,z,ay,h,i,b⟩:=l.mul e w ab ab ab;rw[ao] at h;cases ay;cases h;rw[Int.one_mul] at b;rw[i,(Int.mul_eq_mul_right_iff aa).1 b]
 have u:∀n:Z,n.natAbs<1024->fv (n*2^a):=λn C=>akQ e (k:=10) (c:=1) ab ab (by
  rw[lK,jL,jM,nn (2^a)];exact hR _ aa)
 refine⟨az (gO (bj 0) (jo (bj eU))),⟨?_,?_,?_,?_,?_,?_,?_,Bd m,Bd o,?_,?_,?_,?_,?_,?_,Ih f d⟩⟩
 ·rw[AB ab ab,g];rfl
 ·rw[NK f,ad9]
 ·rw[NK d,ad8]
 ·rw[E1 m];rfl
 ·rw[E1 o];rfl
 ·rw[N8 m ab];rfl
 ·rw[N8 o ab];rfl
 ·rw[g,ao,H9 (u 1 ab) ab,fI];rw[aw aa,ax aa]
 ·rw[xX d,ao];show Y (gS (1*2^a),())=_;unfold gS;rw[aw aa,aw aa]
 ·unfold xA;refine af (AB ab ab) ?_;dsimp only;refine af (q8 (vB _) f) ?_;dsimp only;refine af (AB ab ab) ?_;dsimp only;refine af (q8 (vB _) d) ?_;have B:fD (iz 64) (bj 0)=Y 0:=by
   have l:cF a 0 10 1 (Y (64*2^a)):=⟨_,bo,⟨64,by rw[alY]⟩,by
    rw[lK,jL,jM,nn (2^a)];exact hR _ ab⟩
   obtain⟨_,v,x,z,ay,h,i,b⟩:=l.mul e p ab ab ab;cases h;rw[al6] at b;rw[r 64 ab,g,i,(zc.1 b).resolve_right aa]
  rw[B,r 41 ab,s ab];dsimp only;refine af (H9 ab (u 41 ab)) ?_;unfold fI;rw[cc aa];rfl
 ·rw[q8 f d,g,t w]
 ·rw[q8 d d];have:=s (n:=1) ab;rw[<-ao] at this;rw[this]
 rw[q8 f f,g,t p]
section
variable {z o q:ik}
abbrev fN (z o:ik) (a b:bA):dj:=([0,1],(2,([a,b],([[z,o],[o,z]],()))))
def rR {d:dj} {b c a:Z} {row:bn ik} {e:ik} (f:aj d.2.2.2.1 b=Y row) (g:aj row c=Y e) (h:uU (e,0,())=Y (a,())):xz (Y d,b,c,())=Y (a,()):=by unfold xz;exact af bo (af f (af g (af h bo)))
def Oz (a:w4 z o q):u0 (Y (fN z o bp bp),0,())=Y (o,1,0,())/\u0 (Y (fN z o bp bp),1,())=Y (o,0,0,()):=by
 constructor
 ·unfold u0;refine af a.i0 (af (y:=fN z o bp bp) rfl ?_);refine af (y:=.inl (1,fh,o,())) ?_ bo;refine(hP (s':=(-1,1,fh,z,())) ?_).trans ((hP (s':=(1,2,fh,o,())) ?_).trans (ia (by kernel_rfl)))
  ·dsimp only;rw[aQ (by kernel_rfl)];refine af (y:=.inl (-1,fh,z,())) ?_ (by kernel_rfl);refine af (y:=fN z o bp bp) rfl (af (y:=bp) rfl ?_);rw[aM (by rfl)];refine af (rR (row:=[z,o]) (e:=z) rfl rfl a.yI) (af a.f0 ?_)
   kernel_rfl
  dsimp only;rw[aQ (by kernel_rfl)];refine af (y:=.inl (1,fh,o,())) ?_ (by kernel_rfl);refine af (y:=fN z o bp bp) rfl (af (y:=bp) rfl ?_);rw[aM (by rfl)];refine af (rR (row:=[o,z]) (e:=o) rfl rfl a.Kx) (af a.f1 ?_);dsimp only;rw[aM (by rfl),aM (by kernel_rfl)];refine af a.CD (af a.rC (af a.c ?_));dsimp only;refine af (y:=(bp,fh,z,())) (by kernel_rfl) ?_;dsimp only;rw[aQ bo];exact af a.CD (af a.rC bo)
 unfold u0;refine af a.i0 (af (y:=fN z o bp bp) rfl ?_);refine af (y:=.inl (0,fh,o,())) ?_ bo;refine(hP (s':=(0,1,fh,o,())) ?_).trans ((hP (s':=(0,2,fh,o,())) ?_).trans (ia (by kernel_rfl)))
 ·dsimp only;rw[aQ (by kernel_rfl)];refine af (y:=.inl (0,fh,o,())) ?_ (by kernel_rfl);refine af (y:=fN z o bp bp) rfl (af (y:=bp) rfl ?_);rw[aM (by rfl)];refine af (rR (row:=[z,o]) (e:=o) rfl rfl a.Kx) (af a.f1 ?_);dsimp only;rw[aM (by rfl),aM (by kernel_rfl)];refine af a.CD (af a.rC (af a.c ?_));dsimp only;refine af (y:=(bp,fh,z,())) (by kernel_rfl) ?_;dsimp only;rw[aQ bo];exact af a.CD (af a.rC bo)
 dsimp only;rw[aQ (by kernel_rfl)];refine af (y:=.inl (0,fh,o,())) ?_ (by kernel_rfl);refine af (y:=fN z o bp bp) rfl (af (y:=bp) rfl ?_);rw[aM (by rfl)];refine af (rR (row:=[o,z]) (e:=z) rfl rfl a.yI) (af a.f0 ?_)
 kernel_rfl
def NG (a:w4 z o q):uZ (Y (fN z o bp bp),0,())=Y (z,())/\uZ (Y (fN z o bp bp),1,())=Y (z,()):=by
 constructor
 ·unfold uZ;exact af (rR (row:=[z,o]) (e:=z) rfl rfl a.yI) (af a.a0 (af a.Fr bo))
 unfold uZ;exact af (rR (row:=[o,z]) (e:=z) rfl rfl a.yI) (af a.a0 (af a.Fr bo))
def M1 (a:w4 z o q):xy (Y (fN z o bp bp),())=Y ([0,1],0,())/\xy (Y (fN z o br br),())=Y ([],0,()):=by
 constructor
 ·unfold xy;refine af (y:=fN z o bp bp) rfl (af (y:=.inr ([0,1],0,())) (ia ?_) rfl);dsimp only;rw[aQ (by kernel_rfl)];refine af (y:=.inr (.inr (.inr ([0,1],0,())))) ?_ bo;refine af (y:=fN z o bp bp) rfl (af (y:=bp) rfl ?_);rw[aM (by rfl)];refine af (Oz a).1 ?_;dsimp only;rw[aM (by kernel_rfl)];refine af (NG a).1 ?_;dsimp only;refine af (y:=.inl (o,z,())) ?_ ?_
  ·refine af (y:=(br,o,z,())) ?_ bo;refine af a.s ?_;dsimp only;rw[aQ (by kernel_rfl)];exact af a.l bo
  dsimp only;refine af (y:=fN z o bp bp) rfl ?_;rw[aM (by kernel_rfl)];refine af (Oz a).2 ?_;dsimp only;rw[aM (by kernel_rfl)];refine af a.YL (af a.PA (af a.l ?_));dsimp only;rw[aM bo];refine af (NG a).2 (af a.l ?_);rfl
 unfold xy;refine af (y:=fN z o br br) rfl (af (y:=.inl ()) ?_ bo);exact(hP (s':=(1,())) (by kernel_rfl)).trans ((hP (s':=(2,())) (by kernel_rfl)).trans (ia (by kernel_rfl)))
def Wi (a:w4 z o q):Dp (fN z o br br,0,1,[0,eU,0],())=Y (fN z o br br,[([],([],())),([],([],()))],0,()):=by
 have b:∀q:ik,qX ([],q,())=Y ([],()):=λq=>(by unfold qX;exact af (y:=([],())) (ia (by kernel_rfl)) rfl);have c:qW (fN z o br br,[],[],[],())=Y (fN z o br br,()):=(by unfold qW;exact af (y:=(fN z o br br,())) (ia (by kernel_rfl)) rfl);unfold Dp;refine af (y:=([],())) ?_ ?_
 ·unfold Dq;refine af (y:=fN z o br br) rfl (af (y:=([],())) ?_ bo);exact(hP (s':=(1,[],())) (by kernel_rfl)).trans ((hP (s':=(2,[],())) (by kernel_rfl)).trans (ia (by kernel_rfl)))
 refine af (y:=0) rfl (af a.Fr (af (y:=eU) rfl (af a.rC (af (y:=0) rfl (af a.Fr ?_)))));refine af (y:=(q,())) ?_ ?_
 ·unfold sF;exact af (y:=z) rfl (af (y:=z) rfl (af a.YM (af (y:=o) rfl (af (y:=o) rfl (af a.PA (af a.d bo))))))
 dsimp only;refine af (y:=(([],([],())),[],0,())) ?_ ?_
 ·unfold HL;exact af (y:=.inl (([],([],())),([],([],())),[],())) (ia (by kernel_rfl)) rfl
 dsimp only;rw[aM (by kernel_rfl)];refine af (y:=(([],([],())),[],0,())) ?_ ?_
 ·unfold HM;exact af (y:=.inl (([],([],())),([],([],())),[],())) (ia (by kernel_rfl)) rfl
 dsimp only;rw[aM (by kernel_rfl)];refine af (y:=z) rfl (af (b _) (af c ?_));refine af (y:=o) rfl (af (b _) (af c ?_));refine af (y:=o) rfl (af (b _) (af c ?_));exact af (y:=z) rfl (af (b _) (af c bo))
abbrev Cr:=bw (Z×((bn aG×bt)×(bn (bw (bn (Z×cP)×X))×bt)))
def ade (b:w4 z o q) (a:Cr):Dt ((a,([],([],([],([],(0,())))))),fN z o bp bp,())=Y ((a,([0,1],([2],([0,eU,0],([([],([],())),([],([],()))],(0,())))))),fN z o br br,0,()):=by
 unfold Dt;refine af (y:=.inl ((a,([0,1],([2],([0,eU,0],([([],([],())),([],([],()))],(0,())))))),fN z o br br,())) ?_ ?_
 ·refine(hP (s':=((a,([0,1],([2],([0,eU,0],([([],([],())),([],([],()))],(0,())))))),fN z o br br,())) ?_).trans (ia ?_)
  ·dsimp only;refine af (M1 b).1 ?_;dsimp only;rw[aM (by kernel_rfl),aM (by kernel_rfl)];refine af (y:=((a,([0,1],([2],([0,eU,0],([([],([],())),([],([],()))],(0,())))))),fN z o br br,0,())) ?_ ?_
   ·unfold HO;refine af (y:=((a,([0,1],([],([],([],(0,())))))),fN z o br br,[0,eU,0],())) ?_ ?_
    ·refine(hP (s':=(1,(a,([0],([],([],([],(0,())))))),fN z o br bp,[0],())) ?_).trans ((hP (s':=(2,(a,([0,1],([],([],([],(0,())))))),fN z o br br,[0,eU,0],())) ?_).trans (ia (by kernel_rfl)))
     ·dsimp only;rw[aQ (by kernel_rfl)];refine af (y:=((a,([],([],([],([],(0,())))))),fN z o bp bp,[0],())) ?_ (by kernel_rfl);refine(hP (s':=(1,(a,([],([],([],([],(0,())))))),fN z o bp bp,[0],())) ?_).trans (ia (by kernel_rfl));dsimp only;rw[aQ (by kernel_rfl)];exact af (y:=0) rfl (af (y:=0) rfl (af (rR (row:=[z,o]) (e:=z) rfl rfl b.yI) (by kernel_rfl)))
     dsimp only;rw[aQ (by kernel_rfl)];refine af (y:=((a,([0],([],([],([],(0,())))))),fN z o br bp,[0,eU,0],())) ?_ (by kernel_rfl);refine(hP (s':=(1,(a,([0],([],([],([],(0,())))))),fN z o br bp,[0,eU],())) ?_).trans ((hP (s':=(2,(a,([0],([],([],([],(0,())))))),fN z o br bp,[0,eU,0],())) ?_).trans (ia (by kernel_rfl)))
     ·dsimp only;rw[aQ (by kernel_rfl)];exact af (y:=1) rfl (af (y:=0) rfl (af (rR (row:=[o,z]) (e:=o) rfl rfl b.Kx) (by kernel_rfl)))
     dsimp only;rw[aQ (by kernel_rfl)];exact af (y:=1) rfl (af (y:=1) rfl (af (rR (row:=[o,z]) (e:=z) rfl rfl b.yI) (by kernel_rfl)))
    dsimp only;refine af (y:=()) rfl (af (y:=()) rfl ?_);refine af (y:=(0,[([],([],())),([],([],()))],(a,([0,1],([2],([0,eU,0],([],(0,())))))),fN z o br br,())) ?_ (by kernel_rfl);rw[aM (by kernel_rfl)];exact af (y:=0) rfl (af (y:=1) rfl (af (Wi b) rfl))
   kernel_rfl
  dsimp only;refine af (M1 b).2 ?_
  kernel_rfl
 dsimp only;refine af (y:=((a,([0,1],([2],([0,eU,0],([([],([],())),([],([],()))],(0,())))))),fN z o br br,())) ?_ bo;exact(hP (s':=(1,(a,([0,1],([2],([0,eU,0],([([],([],())),([],([],()))],(0,())))))),fN z o br br,())) (by kernel_rfl)).trans ((hP (s':=(2,(a,([0,1],([2],([0,eU,0],([([],([],())),([],([],()))],(0,())))))),fN z o br br,())) (by kernel_rfl)).trans (ia (by kernel_rfl)))
def aed:Dr ((0,(2,([0,1],(-1,())))),[],())=Y ([0,1],2,()):=by unfold Dr;refine af (y:=([],())) (ia (by kernel_rfl)) ?_;dsimp only;refine af (y:=([0,1],())) ((hP (s':=(1,[0],())) (by kernel_rfl)).trans ((hP (s':=(2,[0,1],())) (by kernel_rfl)).trans (ia (by kernel_rfl)))) (by kernel_rfl)
def U1 {a:Cr} (f:z=fh) (b:p0 (a,0,0,())=Y (z,())) (c:p0 (a,0,1,())=Y (o,())) (d:p0 (a,1,0,())=Y (o,())) (e:p0 (a,1,1,())=Y (z,())):Dn (a,(0,(2,([0,1],(-1,())))),[],())=Y (fN z o bp bp,0,()):=by
 unfold Dn;refine af aed ?_;dsimp only;rw[aM (by kernel_rfl)];refine af (y:=2) (by kernel_rfl) (af (y:=2) (by kernel_rfl) ?_);refine af (y:=(([0,1],(2,([bp,bp],([[fh,fh],[fh,fh]],())))),())) ?_ ?_
 ·exact(hP (s':=(1,([0,1],(2,([bp,br],([[fh,fh],[]],())))),())) (by kernel_rfl)).trans ((hP (s':=(2,([0,1],(2,([bp,bp],([[fh,fh],[fh,fh]],())))),())) (by kernel_rfl)).trans (ia (by kernel_rfl)))
 dsimp only;rw[<-f];refine af (y:=(fN z o bp bp,())) ?_ ?_
 ·refine(hP (s':=(1,([0,1],(2,([bp,bp],([[z,o],[z,z]],())))),())) ?_).trans ((hP (s':=(2,fN z o bp bp,())) ?_).trans (ia (by kernel_rfl)))
  ·dsimp only;rw[aQ (by kernel_rfl)];refine af (y:=(([0,1],(2,([bp,bp],([[z,o],[z,z]],())))),())) ?_ (by kernel_rfl);refine(hP (s':=(1,([0,1],(2,([bp,bp],([[z,z],[z,z]],())))),())) ?_).trans ((hP (s':=(2,([0,1],(2,([bp,bp],([[z,o],[z,z]],())))),())) ?_).trans (ia (by kernel_rfl)))
   ·dsimp only;rw[aQ (by kernel_rfl)];refine af (y:=(([0,1],(2,([bp,bp],([[z,z],[z,z]],())))),())) ?_ (by kernel_rfl);rw[lN (v:=0) rfl,lN (v:=0) rfl];refine af (y:=(bp,([0,1],(2,([bp,bp],([[z,z],[z,z]],())))),())) (by kernel_rfl) ?_;dsimp only;rw[aQ bo];refine af (y:=0) (by kernel_rfl) ?_;rw[lN (v:=0) rfl,lN (v:=0) rfl];exact af b (by kernel_rfl)
   dsimp only;rw[aQ (by kernel_rfl)];refine af (y:=(([0,1],(2,([bp,bp],([[z,o],[z,z]],())))),())) ?_ (by kernel_rfl);rw[lN (v:=0) rfl,lN (v:=1) rfl];refine af (y:=(bp,([0,1],(2,([bp,bp],([[z,z],[z,z]],())))),())) (by kernel_rfl) ?_;dsimp only;rw[aQ bo];refine af (y:=0) (by kernel_rfl) ?_;rw[lN (v:=0) rfl,lN (v:=1) rfl];exact af c (by kernel_rfl)
  dsimp only;rw[aQ (by kernel_rfl)];refine af (y:=(fN z o bp bp,())) ?_ (by kernel_rfl);refine(hP (s':=(1,([0,1],(2,([bp,bp],([[z,o],[o,z]],())))),())) ?_).trans ((hP (s':=(2,fN z o bp bp,())) ?_).trans (ia (by kernel_rfl)))
  ·dsimp only;rw[aQ (by kernel_rfl)];refine af (y:=(([0,1],(2,([bp,bp],([[z,o],[o,z]],())))),())) ?_ (by kernel_rfl);rw[lN (v:=1) rfl,lN (v:=0) rfl];refine af (y:=(bp,([0,1],(2,([bp,bp],([[z,o],[z,z]],())))),())) (by kernel_rfl) ?_;dsimp only;rw[aQ bo];refine af (y:=1) (by kernel_rfl) ?_;rw[lN (v:=1) rfl,lN (v:=0) rfl];exact af d (by kernel_rfl)
  dsimp only;rw[aQ (by kernel_rfl)];refine af (y:=(fN z o bp bp,())) ?_ (by kernel_rfl);rw[lN (v:=1) rfl,lN (v:=1) rfl];refine af (y:=(bp,([0,1],(2,([bp,bp],([[z,o],[o,z]],())))),())) (by kernel_rfl) ?_;dsimp only;rw[aQ bo];refine af (y:=1) (by kernel_rfl) ?_;rw[lN (v:=1) rfl,lN (v:=1) rfl];exact af e (by kernel_rfl)
 dsimp only;exact af (y:=(fN z o bp bp,())) (ia (by kernel_rfl)) rfl
def aeP (b:aG) (a:eO):z8 ([],(Y b,Y a,()),())=Y ([],()):=by unfold z8;refine af (y:=(0,())) (by kernel_rfl) (af (y:=([],())) ?_ bo);unfold HZ;refine af (y:=([],())) (ia ?_) rfl;dsimp only;rw[aQ (by kernel_rfl)];refine af (y:=([],())) ?_ bo;unfold HY;exact af (y:=([],())) (ia (by kernel_rfl)) rfl
def WT (e:Cr):Ds (Y (e,([0,1],([2],([0,eU,0],([([],([],())),([],([],()))],(0,())))))),[0,1],())=Y (x0,()):=by
 unfold Ds;refine af (y:=2) (by kernel_rfl) (af (y:=(e,([0,1],([2],([0,eU,0],([([],([],())),([],([],()))],(0,()))))))) rfl (af (y:=(e,([0,1],([2],([0,eU,0],([([],([],())),([],([],()))],(0,()))))))) rfl (af (y:=(e,([0,1],([2],([0,eU,0],([([],([],())),([],([],()))],(0,()))))))) rfl (af (y:=(e,([0,1],([2],([0,eU,0],([([],([],())),([],([],()))],(0,()))))))) rfl ?_))));refine af (y:=(ja,[0,1],([0,1],([2],([0,eU,0],([0],([],([],(0,()))))))),())) ?_ ?_
 ·exact(hP (s':=(1,ja,[0,0],([0],([2],([0,eU,0],([0],([],([],(0,()))))))),())) (by kernel_rfl)).trans ((hP (s':=(2,ja,[0,1],([0,1],([2],([0,eU,0],([0],([],([],(0,()))))))),())) (by kernel_rfl)).trans (ia (by kernel_rfl)))
 dsimp only;refine af (y:=(e,([0,1],([2],([0,eU,0],([([],([],())),([],([],()))],(0,()))))))) rfl ?_;refine af (y:=(ja,x0,())) ?_ bo;have v:∀(d:Z) (a:cL),aj ([([],([],())),([],([],()))]:bn eO) d=Y ([],([],()))->bu (d<2)=bp->a.2.2.2.2.1=[]->a.2.2.2.2.2.1=[]->bh (a.2.2.2.1.length+1)=Y ()->
  (bif bu (d<ak ([([],([],())),([],([],()))]:bn eO)) then
 (aj ([([],([],())),([],([],()))]:bn eO) d).bind λj=>
 (fj (ak j.1) (ak j.1)).bind λs=>
 (loop (σ:=(Z×cL×aG×cL×eO×aG×bt)) (ρ:=(cL×aG×cL×eO×aG×bt)) (λ(f,t,p,o,m,k,_)=>
  bif bu (f<ak (bJ s (0:Z))) then
 wr k f f λK=>
 Y (.inl (aH f,t,p,o,m,K,())) else
 Y (.inr (t,p,o,m,k,()))) (0,ja,[0,1],a,j,bJ s (0:Z),())).bind λ(H,q,B,n,A,_)=>
 (z8 (A,(Y q,Y n,()),())).bind λ(r,_)=>
 (loop (σ:=(Z×cL×aG×cL×eO×aG×bt)) (ρ:=(cL×aG×cL×bt)) (λ(i,u,h,b,g,l,_)=>
  bif bu (i<ak r) then
 rd l i λw=>
 (aj g.1 w).bind λJ=>
 rd h J λx=>
 (bh ((b.2.2.2.2.1).length+([x]).length)).bind λ_=>
 (aj g.2.1 w).bind λz=>
 (bh ((b.2.2.2.2.2.1).length+([z]).length)).bind λ_=>
 Y (.inl (aH i,u,h,(b.1,(b.2.1,(b.2.2.1,(b.2.2.2.1,((b.2.2.2.2.1++[x]),((b.2.2.2.2.2.1++[z]),b.2.2.2.2.2.2)))))),g,l,())) else
 Y (.inr (u,h,b,()))) (0,H,q,B,n,r,())).bind λ(I,C,c,_)=>
 (bh ((c.2.2.2.1).length+([ak c.2.2.2.2.1]).length)).bind λ_=>
 Y (.inl (aH d,I,C,(c.1,(c.2.1,(c.2.2.1,((c.2.2.2.1++[ak c.2.2.2.2.1]),c.2.2.2.2)))),())) else(
 Y (.inr (ja,a,()))):bw (uD⊕(cL×cL×bt)))=Y (.inl (aH d,ja,[0,1],(a.1,(a.2.1,(a.2.2.1,(a.2.2.2.1++[0],a.2.2.2.2)))),())):=λd a D E F L G=>by rw[show ak ([([],([],())),([],([],()))]:bn eO)=2 from rfl,E,bH];refine af D (af (y:=0) (by kernel_rfl) ?_);refine af (y:=(ja,[0,1],a,([],([],())),[],())) (ia (by kernel_rfl)) ?_;dsimp only;refine af (aeP _ _) ?_;dsimp only;refine af (y:=(ja,[0,1],a,())) (ia (by kernel_rfl)) ?_;dsimp only;rw[F];exact af G bo
 refine(hP (s':=(1,ja,[0,1],([0,1],([2],([0,eU,0],([0,0],([],([],(0,()))))))),())) ?_).trans ((hP (s':=(2,ja,[0,1],x0,())) ?_).trans (ia (by kernel_rfl)))
 ·exact(v 0 ([0,1],([2],([0,eU,0],([0],([],([],(0,()))))))) rfl ab bo rfl rfl).trans (by kernel_rfl)
 exact(v 1 ([0,1],([2],([0,eU,0],([0,0],([],([],(0,()))))))) rfl ab bo rfl rfl).trans (by kernel_rfl)
end
def TM:Dl ((2,(2,([0,1,1],([1],([eU],()))))),[0,1],[(0,(2,([0,1],((-1:Z),()))))],())=Y (x0,0,()):=by obtain⟨q,j⟩:=agw;obtain⟨g,k,h⟩:=LX (lT.Fw (n:=2) ab SL) ae7 SL Iv;have e:=TO (OJ (E:=fK (c3 [0,1,1] [1] [eU] 2)) (n:=2) ab Iv) (l:=Gk) ab (λi f=>by rw[cB.1 f];decide);rw[SM] at h e;have o:s5 (iZ 2 (fK tP) [0,1]) Gk=0:=(by have s:=x8 2 (fK tP) [0,1];unfold s5;rw[cw (ake (pU.2 ⟨by rw[Lb];decide,s⟩)),cc (by rw[Lb];exact ae6)]);rw[o] at e;have b:∀c d:X,c<2->d<2->p0 (Y (2,((iZ 2 (fK tP) [0,1],()),(g,()))),(c:Z),(d:Z),())=Y (az (ae5 c d),()):=λc d p r=>(by have:=Sl k (G:=iZ 2 (fK tP) [0,1]) p r;rw[SM] at this;exact this);have t:az (bj 0)=fh:=(by rw[Bc];rfl);have m:=U1 t (b 0 0 ab ab) (b 0 1 ab ab) (b 1 0 ab ab) (b 1 1 ab ab);unfold Dl;refine af h ?_;dsimp only;rw[aM (by rfl)];refine af bo (af e ?_);dsimp only;rw[aM (by rfl)];refine af (Xb (l:=Gk) ab (λi f=>by rw[cB.1 f];decide)) ?_;dsimp only;rw[aM (by rfl)];generalize u:(Y ((2:Z),((iZ 2 (fK tP) [0,1],()),(g,()))):Cr)=a at*;refine af (y:=1) (by kernel_rfl) ?_;refine af (y:=.inl (ja,(a,([0,1],([2],([0,eU,0],([([],([],())),([],([],()))],(0,())))))),())) ?_ (by dsimp only;exact af (WT a) rfl);refine(hP (s':=(1,ja,(a,([0,1],([2],([0,eU,0],([([],([],())),([],([],()))],(0,())))))),[[]],())) ?_).trans (ia (by kernel_rfl));dsimp only;rw[aQ (by kernel_rfl)];refine af (y:=.inl (ja,(a,([0,1],([2],([0,eU,0],([([],([],())),([],([],()))],(0,())))))),[[]],())) ?_ (by kernel_rfl);refine af (y:=(0,(2,([0,1],((-1:Z),()))))) rfl ?_;rw[lN (v:=[]) rfl];refine af m ?_;dsimp only;refine af (y:=(0,ja,(a,([0,1],([2],([0,eU,0],([([],([],())),([],([],()))],(0,())))))),[[]],(0,(2,([0,1],((-1:Z),())))),fN (az (bj 0)) (az (bj eU)) br br,())) ?_ (by kernel_rfl);rw[aQ (by kernel_rfl)];exact af (ade j a) rfl
def s2:aR:=⟨[0,1],[0,eU,0],[],[λ_=>0,λ_=>0]⟩
theorem U4:DQ ()=Y (bp,()):=by
 obtain⟨f,h⟩:∃f:X,f=65536:=⟨_,bo⟩;obtain⟨z,v,w,x,ao,l,m,A,B⟩:=Wb h (a:=0) (b:=eU) (c:=0) ab ab ab;rw[Bc] at l;rw[(FL h).2] at m;cases l;cases m;have D:(0:Z)<2^f:=mS ab;have E:z<0:=(by grind);have u:∀g∈s2.d,c9 g:=λg e=>(by have e:g∈[0,eU,0]:=e;simp only[fG,amc,or_false] at e;rcases e with rfl|rfl|rfl<;>exact⟨ab,ab⟩);clear h;have n:hk 2 [s2] (p3 [0,1] [s2] (0:Z)):=hb.Oc ⟨ab,λq j=>by
  cases fg.1 j;exact⟨ab,ab,bo,.inr bo,bo,ab⟩,λq j=>by
  cases fg.1 j;exact⟨ab,λ_=>by show kw [0,eU,0]≠Y 0;rw[ao];intro o;cases o;omega,u,λk i F=>by
   have:k=λ_=>0:=(by have i:k∈([λ_=>0,λ_=>0]:bn (X->Z)):=i;simpa using i);rw[this];show c9 0;exact⟨ab,ab⟩⟩,show oX [] [s2] from⟨λG r=>(by cases r),trivial⟩⟩ ab Iv _
 have p:p3 [0,1] [s2] (0:Z)=x0:=WR bo rfl rfl rfl;rw[p] at n;have t:fE [s2]=(1,0,1):=(by have s:kn (kw s2.d)<0:=(by show kn (kw [0,eU,0])<0;simp_all [aeC]);have C:md s2=(1,0,1):=cc ⟨bo,s⟩;grind [fE]);unfold DQ;refine af (y:=((2,(2,([0,1,1],([1],([eU],()))))),())) rfl ?_;dsimp only;refine af TM ?_;dsimp only;refine af (Pc n) ?_;rw[t];dsimp only;rw[aQ (by rfl),aQ (by rfl)];refine af (y:=(bp,())) (LQ _ _ ab) ?_;rfl
def TL {b d o:aj0} {h:iI} (l:a<=5) (m:g4 a a b c d) (s:o.length=a) (j:jF a a b c d o=0->hF (iZ a (fK (c3 b c d a)) o) h):∃i e,Cj i/\vf (((a:Z),(a:Z),b,c,d,()),o,h,())=Y (i,e,()):=by
 by_cases f:jF a a b c d o=0
 ·obtain⟨k,_,g⟩:=Gg f;have f2:=TN (lT.Fw l k) m k g (j f);rcases WS (A:=h9 (c3 b c d a) o) (λt u=>gj _) (j f) (x7 g) (aa:a<=12) g with e|⟨q,r,e,n⟩
  ·rw[e] at f2;exact⟨_,_,.inr bo,f2⟩
  rw[e] at f2;exact⟨_,_,.inl ⟨a,q,l,n⟩,f2⟩
 refine⟨ja,jF a a b c d o,.inr bo,?_⟩;have p:(jF a a b c d o !=0)=bp:=(by rw[fq,aC f];rfl);unfold vf;refine af (adp m aa f h) ?_;dsimp only;rw[aQ p];rfl
def TW (e:aj0) (d f:Z) (q:e.length<=9223372036854775807):H5 (e,d,f,())=Y (bp,()):=by unfold H5;refine bN.1 ?_;refine bF (acY q d f br) ?_;rintro _ ⟨B,D,A,E,o,C,b,c,r,rfl,p⟩;dsimp only;obtain⟨x,u,a,f2⟩:=TL b c r p;obtain⟨⟨i1,y,z,_⟩,ao,g,h⟩:=Ui a;obtain⟨s,v,i,j,k⟩:=Ua a;obtain⟨t,w,l,m,n⟩:=TR b c a;refine bB f2 ?_;dsimp only;refine bB g ?_;dsimp only;refine bB h ?_;dsimp only;refine bB i ?_;dsimp only;refine bB j ?_;dsimp only;refine bB l ?_;dsimp only;refine bB m ?_;dsimp only;rw[aQ ac,aQ ac,aQ ac];refine bB k ?_;dsimp only;rw[aQ ac,aQ ac];refine bB n ?_;dsimp only;rw[aQ ac];exact bB U4 (bv.2 bo)
end
end Go.jt
end
