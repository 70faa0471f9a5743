/-
  Parts of the proof: Pm104, Pm105, Pm106, Pm96, Pm107, Pm45, Pm46, Pm47, Pm48, Pm49, Pm108, Pm60, Pm111, Pm112, Pm113, Pm109, Pm110, Pm114, Pm115: the framework (Fw), pure forms (Dn), plain laws (Pl, Th), calls of functions (Ok).
-/
import Derived.KernelRfl
import Derived.Test.YtnndjinceoekdaaGreatDoorB7493524b

set_option linter.all false
set_option maxHeartbeats 1000000
open _root_ renaming Nat->X,Bool->bA,Int->Z,List->bm,Option->bv,rfl->bn,if_pos->b9,Unit->bt,congrArg->b3,if_neg->cf,cond_true->bG,cond_false->bO,decide_eq_true_eq->ahD,not_not_intro->ahe,decide_eq_decide->cu,decide_eq_true->ahg
open Option renaming some->Y,bind_some->bN,none->bo,bind->bB,map_some->ajs
open Bool renaming false->bq,true->bp,true_and->ajd
open Decidable renaming decide->br
open Go.jm.a7 renaming c3->cw
open Go.jm.ae renaming bs->bz,aK->bE,af->bu,steps->bS,loop->ahx,eq_iff->bP
open Go.jm.aR renaming gF->ajz,run->ahz,choose->alv
open List renaming length_set->ajl,range->bH,length->ahn,take_zero->ajo,take_length->cB,getElem_mem->b6,range_succ->ahG,append_assoc->ahP,map_singleton->als,getElem?_eq_getElem->bR,length_singleton->ajx,length_append->ahO,length_take->aho,take_add_one->ct,flatMap_cons->ajA,flatMap_nil->amP,map_nil->aiq,filter->ajg,mem_iff_getElem->ahY,length_range->ah8,replicate->bJ,getD_eq_getElem?_getD->alu,length_filter_le->ahF,length_map->cj,filter_eq_nil_iff->akh,range'->ahf,range'_concat->akn,mem_flatMap->ajy,take_nil->alo,filter_eq_self->ain,getElem_range->amR,mem_map->ajv,Nodup->ajw
open Go.jm.ix renaming of->ai0
open Nat renaming lt_succ_self->aiB,le_refl->cc,add_assoc->aiJ,not_lt_zero->ajt,lt_irrefl->aje,le_trans->cA,beq->bI,lt_or_ge->cl
open Option.some renaming inj->ah0
open Go.IntKind renaming u64->bC
open Int renaming toNat_natCast->ahR,mul_eq_mul_right_iff->alj,mul_ne_zero->akm,add_zero->ajj,one_mul->ajk,natAbs_of_nonneg->amQ
open Go.jm.cR renaming rc->ajB
noncomputable section
namespace Go.jm
variable{a b:X}{c f:X->X->bA}{d:X->X->ag6}{e:Z}{g:ahc}{h:bm a7}{i:bm (bv (bm (Z×cU)×X))}{j:ew}{k:X->X}{l:bm dc}{m:X->dc}{n:Type}
section
def G6 {a b d:Z}:wI ([az (a2 a),az (a2 b),az (a2 d)],())=Y (az (kU [a,b,d]),()):=by unfold wI;dsimp only;refine ah (y:=az (a2 a)) rfl (ah (y:=az (a2 d)) rfl (ah (pZ (gr _) (gr _)) (ah (y:=az (a2 b)) rfl (ah (y:=az (a2 b)) rfl (ah (pZ (gr _) (gr _)) (ah (He (kJ _ _) (kJ _ _)) ?_))))));rfl
section
variable {R:ahb} {full:X} {lf lf':ag8} {E:X->X->fZ} {x:aR} {c:X}
theorem N1 (a:iK R full lf E x c) {lf':ag8} {k p q:X} (b:k<R.length) (f:p<R.length) (g:q<R.length) (aq:lf.getD k bq=bp) (h:lf.getD p bq=bp) (i:lf.getD q bq=bp) {d e:ag6} (j:cL d) (l:cL e):y7 ((k:Z),(p:Z),(q:Z),az d,az e,Y (Y (cF R full lf' (eG R.length E))),())=Y (az (cH (cT (x.s (R.getD k 0) (R.getD p 0)) d) (c4 (cT (x.s (R.getD k 0) (R.getD q 0)) e))),()):=by obtain⟨u,m,w⟩:=a.r.ent k p b f aq h;obtain⟨v,n,z⟩:=a.r.ent k q b g aq i;have o:=a.r.okd _ (a.r.mem b aq) _ (a.r.mem f h);have t:=a.r.okd _ (a.r.mem b aq) _ (a.r.mem g i);unfold y7;dsimp only;refine ah (y:=Y (cF R full lf' (eG R.length E))) rfl (ah (y:=cF R full lf' (eG R.length E)) rfl (ah (y:=u) (by rw[fg];exact m) (ah (y:=az _) (by grind [fg]) (ah (pZ o j) ?_))));refine ah (y:=Y (cF R full lf' (eG R.length E))) rfl (ah (y:=cF R full lf' (eG R.length E)) rfl (ah (y:=v) (by rw[fg];exact n) (ah (y:=az _) (by grind [fg]) (ah (pZ t l) (ah (He (kJ _ _) (kJ _ _)) rfl)))))
theorem T6 (A:iK R full lf E x c) (gl:c+4<1048576) {p:X} (nn:p<full) (a0:lf.getD p bq=bp) (nx:a<full) (a3:lf.getD a bq=bp) (no:p≠a) (d5:lf'.length=lf.length) (d4:∀g,g<R.length->lf'.getD g bq=(lf.getD g bq&&br (g∉[p,a]))) (d2:x.fin (R.getD p 0)) (gs:x.fin (R.getD a 0)):ae (y6 (cF R full lf' (eG R.length E),(p:Z),(a:Z),x.gJ [R.getD p 0,R.getD a 0],())) λJ=>
  ((x.eL [R.getD p 0,R.getD a 0]).fin/\∃E',J=(cF R full lf' (eG R.length E'),(x.eL [R.getD p 0,R.getD a 0]).c3.map hW,0,())/\iK R full lf' E' (x.elim [R.getD p 0,R.getD a 0]) (c+4))\/(¬(x.eL [R.getD p 0,R.getD a 0]).fin/\J.2.2.1=233/\J.2.1=[]):=by
 have mz:=A.r.fl;have V:=A.r.sm;have bl:p<R.length:=aa;have bx:a<R.length:=aa;have ic:lf'.length=R.length:=d5.trans A.r.ll;have B:∀g∈eV lf' R.length,g<R.length/\lf.getD g bq=bp:=λg n=>(by obtain⟨gc,ge⟩:=xl.1 n;grind);have U:(eV lf' R.length).length<=1000:=dh (H8 _ _) aa;have io:=NJ lf' R.length;have id:=λ(g:X) (n:g∈eV lf' R.length) (L K:ag6) (Q:cL L) (S:cL K)=>N1 A (lf':=lf') (k:=g) (p:=p) (q:=a) (B g n).1 bl bx (B g n).2 a0 a3 Q S;have ii:=λ(g:X) (n:g∈eV lf' R.length) (L K:ag6) (Q:cL L) (S:cL K)=>N1 A (lf':=lf') (k:=g) (p:=a) (q:=p) (B g n).1 bx bl (B g n).2 a3 a0 Q S;have gi:=A.r.mem bl a0;have d0:=A.r.mem bx a3;generalize l2:R.getD p 0=j at*;generalize mc:R.getD a 0=i at*;have a4:[p,a].map (λg=>R.getD g 0)=[j,i]:=(by grind);have f9:a8 (x.ba j j)≠2047:=d2 j gi;have dl:a8 (x.ba i j)≠2047:=d2 i d0;have f2:a8 (x.ba i i)≠2047:=gs i d0;have d8:(eV lf' R.length).map (λg=>R.getD g 0)=x.rows.filter λb=>br (b∉[j,i]):=by
  have:=A.r.rest (lf':=lf') (p:=[p,a]) (λg n=>by
   grind) d4 (bd _)
  rw[<-A.r.rows,a4] at this;grind [DW]
 generalize ap:(λb=>fV (cH (cT (x.s b j) (a2 (x.ba i i))) (c4 (cT (x.s b i) (a2 (x.ba i j))))) (kU (x.gJ [j,i])) 0)=o;generalize av:(λb=>fV (cH (cT (x.s b i) (a2 (x.ba j j))) (c4 (cT (x.s b j) (a2 (x.ba i j))))) (kU (x.gJ [j,i])) 0)=t;have d7:(x.eL [j,i]).l=[o,t]:=(by rw[<-ap,<-av];rfl);have ib:x.lc [j,i]=[o,t]:=d7;have is:(x.eL [j,i]).rows=(eV lf' R.length).map (λg=>R.getD g 0):=d8.symm;have mo:(x.eL [j,i]).c3=[((eV lf' R.length).map (λg=>R.getD g 0),o),((eV lf' R.length).map (λg=>R.getD g 0),t)]:=(by grind [cw]);have hr:(x.eL [j,i]).fin↔(∀g∈eV lf' R.length,a8 (o (R.getD g 0))≠2047)/\∀g∈eV lf' R.length,a8 (t (R.getD g 0))≠2047:=by
  unfold a7.fin;rw[d7,is];constructor
  ·exactλd3=>⟨λg n=>d3 o ac _ (eP.2 ⟨g,n,bn⟩),λg n=>d3 t ac _ (eP.2 ⟨g,n,bn⟩)⟩
  rintro⟨gc,ge⟩ H N b C;obtain⟨g,n,rfl⟩:=eP.1 C;rcases fR.1 N with rfl|N
  ·grind
  grind
 have d1:cL (kU (x.gJ [j,i])):=kA _ _;have go:x.gJ [j,i]=[x.ba j j,x.ba i j,x.ba i i]:=rfl;unfold y6;dsimp only;refine bz (PK ic V) ?_;dsimp only;refine bz (y:=x.ba j j) rfl (bz (qc (x.k5 _ _)) (bz (y:=x.ba i j) rfl (bz (qc (x.k5 _ _)) (bz (y:=x.ba i i) rfl (bz (qc (x.k5 _ _)) ?_)))));dsimp only;refine bz G6 ?_;dsimp only;rw[abe,<-go];refine bE (EA (v:=λg=>cH (cT (x.s (R.getD g 0) j) (a2 (x.ba i i))) (c4 (cT (x.s (R.getD g 0) i) (a2 (x.ba i j))))) V d1 (λg n=>⟨(B g n).1,kA _ _,?_⟩) U) ?_
 ·unfold Ce;dsimp only;refine ah (y:=(Y (Y (cF R full lf' (eG R.length E))),())) rfl (ah (y:=(p:Z)) rfl (ah (y:=(a:Z)) rfl (ah (y:=[az (a2 (x.ba j j)),az (a2 (x.ba i j)),az (a2 (x.ba i i))]) rfl (ah (y:=az (a2 (x.ba i i))) rfl (ah (y:=[az (a2 (x.ba j j)),az (a2 (x.ba i j)),az (a2 (x.ba i i))]) rfl (ah (y:=az (a2 (x.ba i j))) rfl ?_))))));exact ah (id g n _ _ (gr _) (gr _)) rfl
 rintro J (⟨mp,rfl⟩|⟨⟨g,n,gt⟩,P⟩)
 rotate_left
 ·obtain⟨H,f3,f4,_⟩:=J;dsimp only at P;subst P;dsimp only;rw[aY (by rfl)];grind [bu]
 dsimp only;rw[a1 (by rfl),abf];refine bE (EA (v:=λg=>cH (cT (x.s (R.getD g 0) i) (a2 (x.ba j j))) (c4 (cT (x.s (R.getD g 0) j) (a2 (x.ba i j))))) V d1 (λg n=>⟨(B g n).1,kA _ _,?_⟩) U) ?_
 ·unfold Cf;dsimp only;refine ah (y:=(Y (Y (cF R full lf' (eG R.length E))),())) rfl (ah (y:=(a:Z)) rfl (ah (y:=(p:Z)) rfl (ah (y:=[az (a2 (x.ba j j)),az (a2 (x.ba i j)),az (a2 (x.ba i i))]) rfl (ah (y:=az (a2 (x.ba j j))) rfl (ah (y:=[az (a2 (x.ba j j)),az (a2 (x.ba i j)),az (a2 (x.ba i i))]) rfl (ah (y:=az (a2 (x.ba i j))) rfl ?_))))));exact ah (ii g n _ _ (gr _) (gr _)) rfl
 rintro J (⟨mt,rfl⟩|⟨⟨g,n,gt⟩,P⟩)
 rotate_left
 ·obtain⟨H,f3,f4,_⟩:=J;dsimp only at P;subst P;dsimp only;rw[aY (by rfl)];grind [bu]
 dsimp only;rw[a1 (by rfl)];have f5:(λg=>fV (cH (cT (x.s (R.getD g 0) j) (a2 (x.ba i i))) (c4 (cT (x.s (R.getD g 0) i) (a2 (x.ba i j))))) (kU (x.gJ [j,i])) 0)=λg=>o (R.getD g 0):=(by rw[<-ap]);have f7:(λg=>fV (cH (cT (x.s (R.getD g 0) i) (a2 (x.ba j j))) (c4 (cT (x.s (R.getD g 0) j) (a2 (x.ba i j))))) (kU (x.gJ [j,i])) 0)=λg=>t (R.getD g 0):=(by rw[<-av]);have f6:(λg=>az (a2 (fV (cH (cT (x.s (R.getD g 0) j) (a2 (x.ba i i))) (c4 (cT (x.s (R.getD g 0) i) (a2 (x.ba i j))))) (kU (x.gJ [j,i])) 0)))=λg=>az (a2 (o (R.getD g 0))):=(by rw[<-ap]);have f8:(λg=>az (a2 (fV (cH (cT (x.s (R.getD g 0) i) (a2 (x.ba j j))) (c4 (cT (x.s (R.getD g 0) j) (a2 (x.ba i j))))) (kU (x.gJ [j,i])) 0)))=λg=>az (a2 (t (R.getD g 0))):=(by rw[<-av]);have hc:∀g∈eV lf' R.length,a8 (o (R.getD g 0))≠2047:=λg n=>(by grind);have hi:∀g∈eV lf' R.length,a8 (t (R.getD g 0))≠2047:=λg n=>(by grind);rw[f5,f7,f6,f8];generalize nd:eV lf' R.length=m at*;have am:=λ(E:X->X->fZ) (an:X->X->ag6) (L K:X->ag6) (gf:∀b∈m,∀h∈m,E b h=az (an b h)) (i0:∀b∈m,∀h∈m,cL (an b h)) (Q:∀b,cL (L b)) (S:∀b,cL (K b))=>
  QK (R:=R) (full:=full) (lf:=lf') (E:=E) (l:=m) (s:=an) (u:=L) (v:=K) V (λg n=>(B g n).1) io U gf i0 (λb _=>Q b) (λb _=>S b)
 have ci:∀{E:X->X->fZ} {s':X->X->ag6},∀b∈m,∀h∈m,(if b∈m/\h∈m then az (s' b h) else E b h)=az (s' b h):=λb C h F=>au ⟨C,F⟩;generalize ce:(λb h=>x.s (R.getD b 0) (R.getD h 0))=z;generalize d9:(λg=>cT (a2 (o (R.getD g 0))) (a2 (x.ba j j)))=w;generalize ek:(λg=>cT (a2 (o (R.getD g 0))) (a2 (x.ba i j)))=D;generalize el:(λg=>cT (a2 (t (R.getD g 0))) (a2 (x.ba i j)))=G;generalize em:(λg=>cT (a2 (t (R.getD g 0))) (a2 (x.ba i i)))=T;generalize eq:(λg=>a2 (o (R.getD g 0)))=v1;generalize fn:(λg=>a2 (t (R.getD g 0)))=fv;have fT:∀b,cL (v1 b):=λb=>(by grind [gr]);have f0:∀b,cL (fv b):=λb=>(by grind [gr]);have i3:∀b,cL (w b):=λb=>(by grind [kJ]);have i8:∀b,cL (D b):=λb=>(by grind [kJ]);have jp:∀b,cL (G b):=λb=>(by grind [kJ]);have kd:∀b,cL (T b):=λb=>(by grind [kJ]);have lo:m.map (λg=>az (a2 (o (R.getD g 0))))=m.map λg=>az (v1 g):=(by rw[<-eq]);have lt:m.map (λg=>az (a2 (t (R.getD g 0))))=m.map λg=>az (fv g):=(by rw[<-fn]);have ad:=λ(f1:X->Z) (c2:Z)=>Qn (l:=m) (f:=f1) (d:=a2 c2) (gr c2) U;have kg:=am E z w v1 (λb C h F=>by rw[<-ce];exact A.e (B b C).1 (B h F).1 (B b C).2 (B h F).2) (λb C h F=>by rw[<-ce];exact A.r.okd _ (A.r.mem (B b C).1 (B b C).2) _ (A.r.mem (B h F).1 (B h F).2)) i3 fT;have lb:=am _ (λb h=>cH (z b h) (c4 (cT (w b) (v1 h)))) D fv (ci (E:=E) (s':=λb h=>cH (z b h) (c4 (cT (w b) (v1 h))))) (λb _ h _=>kA _ _) i8 f0;have le:=am _ (λb h=>cH (cH (z b h) (c4 (cT (w b) (v1 h)))) (c4 (cT (D b) (fv h)))) G v1 (ci (E:=λb h=>if b∈m/\h∈m then az (cH (z b h) (c4 (cT (w b) (v1 h)))) else E b h) (s':=λb h=>cH (cH (z b h) (c4 (cT (w b) (v1 h)))) (c4 (cT (D b) (fv h))))) (λb _ h _=>kA _ _) jp fT;have lk:=am _ (λb h=>cH (cH (cH (z b h) (c4 (cT (w b) (v1 h)))) (c4 (cT (D b) (fv h)))) (c4 (cT (G b) (v1 h)))) T fv (ci (E:=λb h=>if b∈m/\h∈m then az (cH (cH (z b h) (c4 (cT (w b) (v1 h)))) (c4 (cT (D b) (fv h)))) else if b∈m/\h∈m then az (cH (z b h) (c4 (cT (w b) (v1 h)))) else E b h) (s':=λb h=>cH (cH (cH (z b h) (c4 (cT (w b) (v1 h)))) (c4 (cT (D b) (fv h)))) (c4 (cT (G b) (v1 h))))) (λb _ h _=>kA _ _) kd f0;have co:=ad (λg=>o (R.getD g 0)) (x.ba j j);have cs:=ad (λg=>o (R.getD g 0)) (x.ba i j);have cv:=ad (λg=>t (R.getD g 0)) (x.ba i j);have c1:=ad (λg=>t (R.getD g 0)) (x.ba i i);rw[show m.map (λg=>az (cT (a2 (o (R.getD g 0))) (a2 (x.ba j j))))=m.map λg=>az (w g) by rw[<-d9]] at co;rw[show m.map (λg=>az (cT (a2 (o (R.getD g 0))) (a2 (x.ba i j))))=m.map λg=>az (D g) by rw[<-ek]] at cs;rw[show m.map (λg=>az (cT (a2 (t (R.getD g 0))) (a2 (x.ba i j))))=m.map λg=>az (G g) by rw[<-el]] at cv;rw[show m.map (λg=>az (cT (a2 (t (R.getD g 0))) (a2 (x.ba i i))))=m.map λg=>az (T g) by rw[<-em]] at c1;rw[lo] at co cs|-;rw[lt] at cv c1|-;refine bz (y:=az (a2 (x.ba j j))) rfl (bz co (bz kg ?_));refine bz (y:=az (a2 (x.ba i j))) rfl (bz cs (bz lb ?_));refine bz (y:=az (a2 (x.ba i j))) rfl (bz cv (bz le ?_));refine bz (y:=az (a2 (x.ba i i))) rfl (bz c1 (bz lk ?_));refine bu.2 (.inl ⟨hr.2 ⟨hc,hi⟩,(λb h=>if b∈m/\h∈m then az (cH (cH (cH (cH (z b h) (c4 (cT (w b) (v1 h)))) (c4 (cT (D b) (fv h)))) (c4 (cT (G b) (v1 h)))) (c4 (cT (T b) (fv h)))) else(λb h=>if b∈m/\h∈m then az (cH (cH (cH (z b h) (c4 (cT (w b) (v1 h)))) (c4 (cT (D b) (fv h)))) (c4 (cT (G b) (v1 h)))) else(λb h=>if b∈m/\h∈m then az (cH (cH (z b h) (c4 (cT (w b) (v1 h)))) (c4 (cT (D b) (fv h)))) else if b∈m/\h∈m then az (cH (z b h) (c4 (cT (w b) (v1 h)))) else E b h) b h) b h),?_,?_⟩)
 ·grind [LN]
 have hs:∀b O,nA (x.gJ [j,i]) (x.lc [j,i]) b O=cH (cH (cH (hH (o b) (x.ba j j) (o O)) (hH (o b) (x.ba i j) (t O))) (hH (t b) (x.ba i j) (o O))) (hH (t b) (x.ba i i) (t O)):=λb O=>(by rw[ib];rfl);have ds:∀M:X,M=65536->∀b∈x.rows.filter (λb=>br (b∉[j,i])),∀h∈x.rows.filter (λb=>br (b∉[j,i])),
  cH (cH (cH (cH (x.s b h) (c4 (hH (o b) (x.ba j j) (o h)))) (c4 (hH (o b) (x.ba i j) (t h)))) (c4 (hH (t b) (x.ba i j) (o h)))) (c4 (hH (t b) (x.ba i i) (t h)))=(x.elim [j,i]).s b h/\cR M 3222 3072 (c+4) ((x.elim [j,i]).s b h):=by
  intro M I b C h F;have d6:∀H,H∈x.rows.filter (λb=>br (b∉[j,i]))->H∈x.rows/\a8 (o H)≠2047/\a8 (t H)≠2047:=λH N=>(by refine⟨(hx.1 N).1,?_⟩;rw[<-d8] at N;obtain⟨g,n,rfl⟩:=eP.1 N;grind);obtain⟨i1,fp,fs⟩:=d6 b C;obtain⟨i2,ft,fz⟩:=d6 h F;have:=cR.ac0 I (A.ex M I b i1 h i2) (cR.hH I fp f9 ft) (cR.hH I fp dl fz) (cR.hH I fs dl ft) (cR.hH I fs f2 fz) gl;rw[<-hs] at this;exact this
 have ne:=A.next (lf':=lf') (p:=[p,a]) (λg n=>by
  rcases fR.1 n with rfl|n
  ·grind
  grind) (by grind) d5 d4 (E':=λb h=>if b∈m/\h∈m then az (cH (cH (cH (cH (z b h) (c4 (cT (w b) (v1 h)))) (c4 (cT (D b) (fv h)))) (c4 (cT (G b) (v1 h)))) (c4 (cT (T b) (fv h)))) else(λb h=>if b∈m/\h∈m then az (cH (cH (cH (z b h) (c4 (cT (w b) (v1 h)))) (c4 (cT (D b) (fv h)))) (c4 (cT (G b) (v1 h)))) else(λb h=>if b∈m/\h∈m then az (cH (cH (z b h) (c4 (cT (w b) (v1 h)))) (c4 (cT (D b) (fv h)))) else if b∈m/\h∈m then az (cH (z b h) (c4 (cT (w b) (v1 h)))) else E b h) b h) b h) (c':=c+4) (λb h C F n7 of=>by
   have hv:b∈m:=(by grind [xl]);have hw:h∈m:=(by grind [xl]);rw[a4];dsimp only;rw[b9 ⟨hv,hw⟩,<-(ds 65536 bn (R.getD b 0) (by grind) (R.getD h 0) (by grind)).1,<-ce,<-d9,<-ek,<-el,<-em,<-eq,<-fn];rfl) (by
   rw[a4];intro M I b C h F;exact(ds M I b C h F).2)
 grind
end
end
section
theorem LD {x:aR}:∀{d b:ahb},x.gF d=Y b->∀c∈b,x.fin c
 |[],b,a,c,f=>by grind [ajz]
 |q::d,b,a,c,f=>by
  rw[ajz] at a;split at a
  ·cases a
  rename_i e;have e:=Classical.not_not.1 e;split at a
  ·grind
  split at a
  ·grind
  rename_i h g;split at a
  ·exact LD a c f
  grind
abbrev vT:=bv (Z×((bm aA×bt)×(bm (bv (bm (Z×cU)×X))×bt)))
abbrev Fz:=vT×(aA×(aA×(aA×(bm eF×eW))))
def lv (b:vT) (a:bm a7) (del:X):Fz:=(b,(a5 (a.flatMap a7.cD),(a.map (λc=>(c.cD.length:Z)),(a.flatMap a7.d,((a.flatMap cw).map hW,((del:Z),()))))))
def Fy (a:bm a7):Prop:=(a.flatMap a7.cD).length<=1000/\a.length<=1000/\(a.flatMap a7.d).length<=10000/\(a.flatMap cw).length<=10000
def ir (lf:ag8) (c:ahb):ag8:=c.foldl (λb a=>b.set a bq) lf
theorem X2 (lf:ag8) (b:ahb) (a:X):ir lf (b++[a])=(ir lf b).set a bq:=by grind [ir]
theorem IK (a:ahb):∀lf:ag8,(ir lf a).length=lf.length:=by
 induction a with
 |nil=>intro lf;rfl
 |cons c a b=>
  grind [ajl,ir,lf]
theorem X1 (b:ahb):∀(lf:ag8) {a:X},a<lf.length->(ir lf b).getD a bq=(lf.getD a bq&&br (a∉b)):=by
 induction b with
 |nil=>grind [ir,lf]
 |cons c b e=>
  intro lf a d;show(ir (lf.set c bq) b).getD a bq=_;grind
section
variable {R:ahb} {full:X} {lf:ag8} {E:X->X->fZ} {x:aR} {c:X}
def l0 (x:aR) (a:ahb) (c:X):ahc:=(bH c).flatMap λb=>(bH (b+1)).map λd=>x.ba (a.getD b 0) (a.getD d 0)
def iK.value (d:iK R full lf E x c) (e:a<R.length) (f:b<R.length) (h:lf.getD a bq=bp) (i:lf.getD b bq=bp) (g:ag8):sn (Y (cF R full g (eG R.length E)),(a:Z),(b:Z),())=Y (x.ba (R.getD a 0) (R.getD b 0),()):=by obtain⟨l,j,k⟩:=d.r.ent a b e f h i;unfold sn;dsimp only;refine ah (y:=cF R full g (eG R.length E)) rfl (ah (y:=l) (by rw[fg];exact j) (ah (y:=az _) (by rw[fg];exact k) ?_));exact ah (Mb (d.r.okd _ (d.r.mem e h) _ (d.r.mem f i))) rfl
theorem Uh (u:iK R full lf E x c) (M:c+4<1048576) {b:ahb} (p:∀e∈b,e<full/\lf.getD e bq=bp) (ds:0<b.length) (N:x.choose=Y (b.map λe=>R.getD e 0)) (n:vT) (am:Fy h) (del:X):ae (Cm (lv n h del,cF R full lf (eG R.length E),a5 b,())) λg=>
  ((x.eL (b.map λe=>R.getD e 0)).fin/\∃B j,g=(lv n (h++[x.eL (b.map λe=>R.getD e 0)]) del,cF R full B (eG R.length j),0,())/\iK R full B j (x.elim (b.map λe=>R.getD e 0)) (c+4))\/(¬(x.eL (b.map λe=>R.getD e 0)).fin/\g.2.2.1=233):=by
 have d3:=u.r.fl;have a0:=u.r.ll;have F:=LD N;have O:=BD N;have S:∀e∈b,e<R.length:=λe o=>(by grind);have d7:b.length<=2:=by rcases O with k|⟨f,k,_⟩|⟨f,s,k,_⟩<;>have:=b3 ahn k<;>simp only[e8,jc,oK] at this<;>omega
 have G:ak (a5 b)=(b.length:Z):=(by rw[bg,fI]);have ek:=u.r.sm;obtain⟨cs,cv,c1,c2⟩:=am;have d4:∀f,f<b.length->(b.map λe=>R.getD e 0).getD f 0=R.getD (b.getD f 0) 0:=λf q=>(by grind);have d8:∀f,(q:f<b.length)->b.getD f 0=b[f]:=λf q=>(by grind);generalize v:(b.map λe=>R.getD e 0)=a at*;have w:a.length=b.length:=(by grind);unfold Cm lv;dsimp only;refine bE (P:=λi=>i=((n,(a5 (h.flatMap a7.cD++a),(h.map (λi=>(i.cD.length:Z)),(h.flatMap a7.d,((h.flatMap cw).map hW,((del:Z),())))))),cF R full (ir lf b) (eG R.length E),l0 x a b.length,())) ?_ ?_
 ·refine bS b.length (λf i=>i=((f:Z),(n,(a5 (h.flatMap a7.cD++a.take f),(h.map (λi=>(i.cD.length:Z)),(h.flatMap a7.d,((h.flatMap cw).map hW,((del:Z),())))))),cF R full (ir lf (b.take f)) (eG R.length E),l0 x a f,())) ?_ ?_ ?_
  ·rw[ajo,ajo,oJ];rfl
  rotate_left
  ·rintro _ rfl;dsimp only;rw[G,a1 (aF (aa:¬(b.length:Z)<(b.length:Z))),cB,<-w,cB];grind [bu]
  rintro f _ q rfl;dsimp only;rw[G,aY (aH (aa:(f:Z)<(b.length:Z))),bk aa];have T:=b6 q;have Q:=S _ T;have av:=(p _ T).2;refine bE (P:=λi=>i=((n,(a5 (h.flatMap a7.cD++a.take f),(h.map (λi=>(i.cD.length:Z)),(h.flatMap a7.d,((h.flatMap cw).map hW,((del:Z),())))))),cF R full (ir lf (b.take f)) (eG R.length E),l0 x a (f+1),())) ?_ ?_
  ·refine bS (f+1) (λs i=>i=((s:Z),(n,(a5 (h.flatMap a7.cD++a.take f),(h.map (λi=>(i.cD.length:Z)),(h.flatMap a7.d,((h.flatMap cw).map hW,((del:Z),())))))),cF R full (ir lf (b.take f)) (eG R.length E),l0 x a f++(bH s).map (λm=>x.ba (a.getD f 0) (a.getD m 0)),())) ?_ ?_ ?_
   ·grind
   ·rintro s _ d2 rfl;dsimp only;rw[aY (aH (aa:(s:Z)<((f+1:X):Z))),bk aa];have L:s<b.length:=aa;have U:=b6 L;refine bz (m2 q) (bz (m2 L) (bz (u.value Q (S _ U) av (p _ U).2 _) ?_));dsimp only;have an:(l0 x a f).length<=100:=by
     have:f=0\/f=1:=aa;rcases this with rfl|rfl
     ·exact(by decide:(0:X)<=100)
     exact(by decide:(1:X)<=100)
    rw[eB (by grind),aC];grind [ahG,ahP,als,bu]
   rintro _ rfl;dsimp only;rw[a1 (aF (aa:¬((f+1:X):Z)<((f+1:X):Z)))];grind [ahG,bu,l0,bH]
  rintro _ rfl;dsimp only;refine bz (m2 q) ?_;have a4:(cF R full (ir lf (b.take f)) (eG R.length E)).2.2.1=ir lf (b.take f):=rfl;have d6:(ir lf (b.take f)).length=R.length:=(IK _ _).trans a0;rw[a4];refine bz (eT aa) ?_;rw[gn (bR (aa:b[f]<(ir lf (b.take f)).length))];refine bz bn (bz (m2 q) ?_);dsimp only;have bl:(cF R full (ir lf (b.take f)) (eG R.length E)).1=a5 R:=rfl;rw[bl,qh Q,eB (by grind [ajx,fI,ahO,aho]),bN];refine bu.2 ?_;have ao:b.take (f+1)=b.take f++[b[f]]:=(by simp_all);have ad:a.take (f+1)=a.take f++[R[b[f]]]:=(by grind [ct,bR]);rw[ao,ad,X2,<-ahP,oo (h.flatMap a7.cD++a.take f)];rfl
 rintro _ rfl;dsimp only;have an:(l0 x a b.length).length<=100:=by
  have:b.length=1\/b.length=2:=aa;rcases this with k|k<;>rw[k]
  ·exact(by decide:(1:X)<=100)
  exact(by decide:(3:X)<=100)
 rw[G,eB (by grind),aC,eB aa,aC];have A:∀e,e<R.length->(ir lf b).getD e bq=(lf.getD e bq&&br (e∉b)):=λe o=>X1 b lf aa;have t:∀(g:c0×bm eF×Z×bt),((x.eL a).fin/\∃j,g=(cF R full (ir lf b) (eG R.length j),(x.eL a).c3.map hW,0,())/\iK R full (ir lf b) j (x.elim a) (c+4))\/(¬(x.eL a).fin/\g.2.2.1=233/\g.2.1=[])->l0 x a b.length=x.gJ a->
  (g.2.1.length<=1000)->
  ae ((cG (((h.flatMap cw).map hW).length+g.2.1.length)).bind λ_=>Y (((n,(a5 (h.flatMap a7.cD++a),((h.map (λi=>(i.cD.length:Z))++[(b.length:Z)]),(h.flatMap a7.d++l0 x a b.length,((h.flatMap cw).map hW++g.2.1,((del:Z),())))))):Fz),g.1,g.2.2.1,())) λg=>
  ((x.eL a).fin/\∃B j,g=(lv n (h++[x.eL a]) del,cF R full B (eG R.length j),0,())/\iK R full B j (x.elim a) (c+4))\/(¬(x.eL a).fin/\g.2.2.1=233):=by
  rintro g l z d9;rw[eB (by grind),aC];refine bu.2 ?_;rcases l with⟨J,j,rfl,K⟩|⟨J,K⟩
  ·refine .inl ⟨J,ir lf b,j,?_,K⟩;unfold lv;rw[z,pB,pB,pB,iy,iy];simp only[ajA,amP,oJ,h7,aiq];show _=((n,(a5 (h.flatMap a7.cD++a),((h.map (λi=>(i.cD.length:Z))++[(a.length:Z)]),(h.flatMap a7.d++x.gJ a,((h.flatMap cw).map hW++(x.eL a).c3.map hW,((del:Z),())))))),_,_,());rw[w]
  grind
 rcases O with k|⟨V,k,_⟩|⟨V,co,k,d0,d1,d5⟩
 ·grind
 ·rw[k] at w
  match b,w,p,v,A,t with
  |[e],_,p,v,A,t=>
   obtain⟨H,I⟩:=p e ac;have o:a=[R.getD e 0]:=v.symm;rw[aY (by rfl)];have C:=acD u M H I (lf':=ir lf [e]) (IK _ _) A (F _ (by grind));rw[<-o] at C;have z:l0 x a 1=[x.ba (R.getD e 0) (R.getD e 0)]:=(by rw[o];rfl);refine bE (P:=λi=>∃g:c0×bm eF×Z×bt,(((x.eL a).fin/\∃j,g=(cF R full (ir lf [e]) (eG R.length j),(x.eL a).c3.map hW,0,())/\iK R full (ir lf [e]) j (x.elim a) (c+4))\/(¬(x.eL a).fin/\g.2.2.1=233/\g.2.1=[]))/\i=(g.2.2.1,g.2.1,(n,(a5 (h.flatMap a7.cD++a),((h.map (λi=>(i.cD.length:Z))++[((1:X):Z)]),(h.flatMap a7.d++l0 x a 1,((h.flatMap cw).map hW,((del:Z),())))))),g.1,())) ?_ ?_
   ·refine bz (y:=(e:Z)) rfl ?_;have a3:∀{ci:Type} (D:Z->bv ci),rd (l0 x a 1) 0 D=D (x.ba (R.getD e 0) (R.getD e 0)):=λD=>(by rw[z];rfl);show ae (rd (l0 x a 1) 0 _) _;rw[a3];refine bE C ?_;rintro g l;exact bu.2 ⟨g,l,bn⟩
   rintro _ ⟨g,l,rfl⟩;dsimp only;refine t g l (by rw[o];rfl) ?_;rcases l with⟨_,j,rfl,_⟩|⟨_,_,k⟩
   ·show((x.eL a).c3.map hW).length<=1000;rw[o,e8];show 1<=1000;decide
   grind
 rw[k] at w
 match b,w,p,v,A,t with
 |[e,m],_,p,v,A,t=>
  obtain⟨H,I⟩:=p e ac;obtain⟨bx,ce⟩:=p m ac;have o:a=[R.getD e 0,R.getD m 0]:=v.symm;have ap:e≠m:=λdl=>(by grind);rw[a1 (by rfl)];have C:=T6 u M H I bx ce ap (lf':=ir lf [e,m]) (IK _ _) A (F _ (by grind)) (F _ (by grind));rw[<-o] at C;have z:l0 x a 2=x.gJ a:=(by rw[o];rfl);refine bE (P:=λi=>∃g:c0×bm eF×Z×bt,(((x.eL a).fin/\∃j,g=(cF R full (ir lf [e,m]) (eG R.length j),(x.eL a).c3.map hW,0,())/\iK R full (ir lf [e,m]) j (x.elim a) (c+4))\/(¬(x.eL a).fin/\g.2.2.1=233/\g.2.1=[]))/\i=(g.2.2.1,g.2.1,(n,(a5 (h.flatMap a7.cD++a),((h.map (λi=>(i.cD.length:Z))++[((2:X):Z)]),(h.flatMap a7.d++l0 x a 2,((h.flatMap cw).map hW,((del:Z),())))))),g.1,())) ?_ ?_
  ·refine bz (y:=(e:Z)) rfl (bz (y:=(m:Z)) rfl ?_);show ae ((y6 (cF R full (ir lf [e,m]) (eG R.length E),(e:Z),(m:Z),l0 x a 2,())).bind _) _;rw[z];refine bE C ?_;rintro g l;exact bu.2 ⟨g,l,by grind⟩
  rintro _ ⟨g,l,rfl⟩;dsimp only;refine t g l z ?_;rcases l with⟨_,j,rfl,_⟩|⟨_,_,k⟩
  ·show((x.eL a).c3.map hW).length<=1000;rw[o,e8];show 2<=1000;decide
  grind
end
end
section
section
variable {R:ahb} {full:X}
structure RW (R:ahb) (full:X) (tr:aR) (n tY:X) (m:vT) (ps0:bm a7) (del:X) (lf:ag8) (E:X->X->fZ) (y:aR) (ps:bm a7) (k:X):Prop where
 x:iK R full lf E y (tY+4*ps.length)
 w:kt y
 lt:y.full<k
 pl:ps.length+y.full<=tr.full
 run:ahz n tr=(ahz k y).map λq=>(q.1,ps++q.2)
 b:(ps.flatMap a7.cD).length+y.full=tr.full/\(ps.flatMap a7.d).length<=3*ps.length/\(ps.flatMap cw).length=(ps.flatMap a7.cD).length
theorem aa7 {l:aR} {lf:ag8} {E:X->X->fZ} {s:X} (D:iK R full lf E l s) (bx:kt l) (d0:s+4*l.full+4<1048576) (a4:l.full<a) (p:vT) {ps0:bm a7} (d3:l.full<=100) (ds:(ps0.flatMap a7.cD).length<=500/\ps0.length<=500/\(ps0.flatMap a7.d).length<=5000/\(ps0.flatMap cw).length<=5000) {del:X} (d2:del<=1000000):ae (Co (lv p ps0 del,cF R full lf (eG R.length E),())) λn=>
  (∃c h e f q,ahz a l=Y (c,h)/\n=(lv p (ps0++h) (del+c.full),cF R full e (eG R.length f),0,())/\iK R full e f c q/\q<=s+4*l.full)\/(ahz a l=bo/\n.2.2.1=233):=by
 have d4:=D.r.fl;have el:=D.r.sm;unfold Co;dsimp only;refine bE (P:=λi=>(∃c h e f q,ahz a l=Y (c,h)/\i=.inl (lv p (ps0++h) del,cF R full e (eG R.length f),())/\iK R full e f c q/\q<=s+4*l.full/\c.full<=l.full)\/(ahz a l=bo/\∃n:Fz×c0×Z×bt,i=.inr n/\n.2.2.1=233)) ?_ ?_
 ·refine ahx (λi=>∃e f c h k,i=(lv p (ps0++h) del,cF R full e (eG R.length f),())/\RW R full l a s p ps0 del e f c h k) (λi=>(i.2.1.2.2.1.filter λo=>o).length) ⟨lf,E,l,[],a,by rw[List.append_nil],D,bx,a4,ac,ac,ac⟩ ?_;rintro _ ⟨e,f,c,h,k,rfl,j⟩;dsimp only;have d8:=j.lt;have d9:=j.pl;obtain⟨k,rfl⟩:∃cs,k=cs+1:=⟨k-1,aa⟩;refine bE j.x.r.choose ?_;rintro n (⟨L,M⟩|⟨g,rfl,Q,t⟩)
  ·obtain⟨ad,o,_⟩:=n;dsimp only at L;subst L;dsimp only;rw[aY (by rfl)];refine bu.2 (.inr ⟨?_,_,bn,bn⟩);rw[j.run,JC M];rfl
  dsimp only;rw[a1 (by rfl),bg,fI];by_cases C:g=[]
  ·subst C;rw[aY (by rfl)];refine bu.2 (.inl ⟨c,h,e,f,_,?_,bn,j.x,aa,aa⟩);rw[j.run,ER t];simp
  have T:0<g.length:=ym.2 C;rw[a1 (by rw[gH,aF aa])];obtain⟨i1,em,eq⟩:=j.b;have ap:Fy (ps0++h):=(by grind [ahO,Fy]);have u:=BD t;have co:0<c.full:=(by have a3:=Q _ (cO T);have:=j.x.r.NZ (k:=g[0]) aa a3.2;grind);refine bE (Uh j.x aa Q T t p ap del) ?_;rintro n (⟨y,A,V,rfl,v⟩|⟨y,z⟩)
  ·dsimp only;rw[a1 (by rfl)];have N:∀(lf:ag8) (c:aR) (K:X) (E:X->X->fZ),iK R full lf E c K->(lf.filter λo=>o).length=c.rows.length:=λlf c K E U=>by
    rw[U.r.rows,DW,e8];unfold eV;rw[<-U.r.ll];have:lf=(bH lf.length).map λk=>lf.getD k bq:=by refine hQ λk=>?_;grind
    conv=>lhs;rw[this]
    rw[List.filter_map,e8];rfl
   have am:(g.map λk=>R.getD k 0).length=g.length:=e8 _;have d7:g.length<=c.full:=(by obtain⟨G,I⟩:=u.props;have:=G.length_le_of_subset I;grind);have ek:(c.elim (g.map λk=>R.getD k 0)).rows.length<c.rows.length:=(by obtain⟨G,I⟩:=u.props;have:=Dt j.w.nd G λi bl=>rY (I i bl);show(c.rows.filter _).length<_;omega);refine bu.2 ⟨⟨A,V,c.elim (g.map λk=>R.getD k 0),h++[c.eL (g.map λk=>R.getD k 0)],k,by rw[jb],?_,j.w.elim u,?_,?_,?_,?_⟩,?_⟩
   ·grind
   ·show c.full-(g.map λk=>R.getD k 0).length<k;omega
   ·show(h++[_]).length+(c.full-(g.map λk=>R.getD k 0).length)<=_;grind
   ·rw[j.run,xT t aa,au y];cases ahz k (c.elim (g.map λk=>R.getD k 0)) with
    |none=>rfl
    |some i=>simp
   ·have H:=j.w.PD u aa y (S:=c.rows) λm O=>O;have F:(c.eL (g.map λk=>R.getD k 0)).cD.length=g.length:=am;have av:(c.eL (g.map λk=>R.getD k 0)).c3.length=g.length:=by
     unfold cw;rw[e8,H.len,F]
    have a0:=H.dl;have an:=H.at1;simp only[pB,ajA,amP,oJ,ku,rW];rw[F,av];rw[F] at a0 an;refine⟨?_,?_,aa⟩
    ·show _+(c.full-(g.map λk=>R.getD k 0).length)=_;omega
    omega
   show(ajg _ (cF R full A _).2.2.1).length<(ajg _ (cF R full e _).2.2.1).length;have ao:=N A _ _ _ v;have c2:=N e _ _ _ j.x;show(A.filter λo=>o).length<(e.filter λo=>o).length;omega
  obtain⟨ad,o,c1,_⟩:=n;dsimp only at z;subst z;dsimp only;rw[aY (by rfl)];refine bu.2 (.inr ⟨?_,_,bn,bn⟩);rw[j.run,xT t (by grind),cf y];rfl
 rintro i (⟨c,h,e,f,q,z,rfl,v,d1,co⟩|⟨z,n,rfl,M⟩)
 rotate_left
 ·grind [bu]
 dsimp only;have ce:=v.r.full;refine bE (P:=λi=>i=(lv p (ps0++h) (del+c.full),cF R full e (eG R.length f),())) ?_ (by grind [bu]);rw[ce];refine bS full (λm i=>i=((m:Z),lv p (ps0++h) (del+(fe R e m).length),cF R full e (eG R.length f),())) rfl ?_ ?_
 ·rintro m _ O rfl;dsimp only;have J:(cF R full e (eG R.length f)).2.1=(full:Z):=rfl;have ci:(cF R full e (eG R.length f)).2.2.1=e:=rfl;have d6:=v.r.ll;rw[J,aY (aH (aa:(m:Z)<(full:Z))),bk aa,ci];have bs:∀{cv:Type} (B:bA->bv cv),rd e (m:Z) B=B (e.getD m bq):=λB=>by
   grind [eT,gn,bR,rd]
  rw[bs];have d5:=Ia R e m;refine bE (P:=λi=>i=(lv p (ps0++h) (del+(fe R e (m+1)).length),cF R full e (eG R.length f),())) ?_ (by grind [bu]);rw[xm];cases C:e.getD m bq with
  |true=>
   rw[bG,b9 bn,ahO,ajx];refine bu.2 ?_;unfold lv;dsimp only;rw[bk aa];rfl
  |false=>
   rw[bO,aw ab];grind [bu]
 rintro _ rfl;dsimp only;have J:(cF R full e (eG R.length f)).2.1=(full:Z):=rfl;rw[J,a1 (aF (aa:¬(full:Z)<(full:Z)))];grind [bu]
end
end
def nI:dd:=([],([],([],([],([],([],(0,())))))))
def jN (a:bm aR):X:=(a.map aR.full).sum
def kF (c:X->X->ag6) (d:ahc) (a:bm dc):dd×Z×bt:=match hX c a a.length with
 |none=>(nI,233,())
 |some b=>(ly d b.2 (jN b.1:Z),0,())
def Ht {a:X->X->ag6} {b:bm dc} {c:X} (e:hX a b c=bo):∀d,hX a b (c+d)=bo
 |0=>e
 |d+1=>by show(hX a b (c+d)).bind _=bo;rw[Ht e d];rfl
theorem G4 (a:bm aR) (b:aR):jN (a++[b])=jN a+b.full:=by grind [jN]
theorem L2 {n:X} {L:bm aR} (c:∀b,b<L.length->(L.getD b fF).full<=n):jN L<=n*L.length:=by
 unfold jN;have:∀a∈L,a.full<=n:=λa d=>(by grind [bR,ahY]);clear c
 induction L with
 |nil=>grind
 |cons a L e=>
  grind [List.length_cons,Nat.mul_succ]
theorem W2 (c:aR->n) {b:bm aR} (e:b.length=a):(bH a).map (λd=>c (b.getD d fF))=b.map c:=by refine hQ λf=>?_;grind
theorem abm (k:hO j l) (o:j.length=a) (m:∀q r,cL (d q r)) (K:a<=64) {u:kS} (M:g.length=a) (F:∀q r:X,q<a->r<a->zy (u,g,(q:Z),(r:Z),())=Y (az (d q r),())) (G:GP (u,g,l,())=Y (0,())):C7 (u,g,l,())=Y (kF d g l):=by
 have V:=Dz k;unfold C7;refine ah G ?_;dsimp only;rw[a1 (by rfl)];refine bP.1 ?_;refine bE (P:=λh=>(hX d l l.length=bo/\h=.inr (nI,233,()))\/∃b e,hX d l l.length=Y (b,e)/\h=.inl ((jN b:Z),nI,e.map ji,())) ?_ ?_
 ·refine bS l.length (λf h=>∃b e,hX d l f=Y (b,e)/\h=((jN b:Z),bq,(f:Z),nI,b.map fS,e.map ji,())) ⟨[],[],bn,bn⟩ ?_ ?_
  rotate_left
  ·rintro _ ⟨b,e,s,rfl⟩;dsimp only;rw[bg,a1 (aF (aa:¬(l.length:Z)<(l.length:Z)))];grind [bu]
  rintro f _ C ⟨b,e,I,rfl⟩;dsimp only;rw[bg,aY (aH (aa:(f:Z)<(l.length:Z))),bk aa];obtain⟨y,i⟩:=q8 m k o aa I;have t:=ai0 k o C;have z:=aby k o C i m aa aa F;rw[W2 fS y] at z;refine bz z ?_;dsimp only;have ap:=i.Bx d m t;have D:=i.tU m t;have an:hX d l (f+1)=(ahz ((gG d l (λc=>b.getD c fF) f).full+1) (gG d l (λc=>b.getD c fF) f)).map λh=>(b++[h.1],e++h.2):=(by grind [hX]);have av:=D.full;generalize gG d l (λc=>b.getD c fF) f=v at*;have J:ak (fS v).1=(v.rows.length:Z):=(by rw[bg];exact b3 _ (fI _));rw[J,a1 (aF (aa:¬(v.rows.length:Z)>64))];have am:e.length<=a:=(by have w:=(At i.eL).1;have x:=i.perm.length_eq;rw[ahO,ah8] at x;have Q:=t.ws;have R:=t.BB;omega);refine bE (acf D aa (aiB _) nI (b.map fS) (pv0:=e.map ji) (by grind)) ?_;rintro h (⟨p,E,N,rfl,a3⟩|⟨N,B⟩)
  ·dsimp only;rw[a1 (by rfl),eB (by grind),bN];have A:hX d l (f+1)=Y (b++[p],e++E):=(by grind);obtain⟨S,H⟩:=q8 m k o aa A;have U:=L2 (n:=a) (L:=b) λc T=>(i.fl aa).1;have a0:p.full<=a:=by
    have:=(H.fl (c:=f) aa).1;grind
   have ad:a*b.length<=64*64:=oP K aa;refine bu.2 ⟨b++[p],e++E,A,?_⟩;rw[G4];have O:ay ((jN b:Z)+(fS p).2.1)=((jN b+p.full:X):Z):=(by show ay ((jN b:Z)+(p.full:Z))=_;grind [cK]);grind
  obtain⟨a4,_⟩:=h;dsimp only at B;subst B;dsimp only;rw[aY (by rfl)];refine bu.2 (.inl ⟨?_,bn⟩);have w:hX d l (f+1)=bo:=(by grind);have x:=Ht w (l.length-(f+1));grind
 rintro h (⟨s,rfl⟩|⟨b,e,s,rfl⟩)
 ·unfold kF;grind [bu]
 dsimp only;unfold kF;rw[s];obtain⟨y,i⟩:=q8 m k o (cc _) s;refine bz (abC M aa (i.all k o) i.eL _) ?_;grind [bu]
section
def kW (n:X):X->X
 |0=>0
 |t+1=>kW n t+(1+kW n t+4*n)
theorem Mc (n:X):∀t,kW n t+(4*n+1)=(4*n+1)*2^t
 |0=>by simp[kW]
 |t+1=>by have:=Mc n t;grind [Nat.pow_succ,Nat.mul_assoc,kW]
def Md {n t:X} (e:n<=12) (b:t<=12):kW n t<=200704:=by have c:=Mc n t;have a:2^t<=2^12:=tL ab b;have d:=oP (aa:4*n+1<=49) a;omega
section
variable {l:bm dc} {n t:X} {L:X->aR} {A:X->X->ag6}
theorem Mx {L:X->aR} {D:X->X}:∀{cs:ahb} {x:aR} {k:X},(∀c∈cs,vH (D c) (L c))->k+(cs.map D).sum<1048576->(∀a:X,a=65536->∀b d,cR a 3222 3072 k (x.s b d))->∀a:X,a=65536->∀b d,cR a 3222 3072 (k+(cs.map D).sum) ((cs.foldl (λx c=>x.plus (L c)) x).s b d)
 |[],x,k,_,_,f=>by grind
 |c::cs,x,k,g,j,f=>by
  rw[h7,List.sum_cons] at j|-;rw[yk,<-aiJ];refine Mx (k:=k+D c) (λi l=>g i (by grind)) aa λa e b d=>?_;show cR a 3222 3072 _ (if _ then _ else _);split
  ·rename_i h;exact(cR.add e ab (f a e b d) (g c ac a e b h.1 d h.2) aa).1
  exact(f a e b d).mono (bd _) (bd _) aa
theorem QM (b:X->X) (c:X->bA):∀l:ahb,((l.filter c).map b).sum<=(l.map b).sum
 |[]=>bd _
 |a::l=>by have:=QM b c l;grind
def QL (n:X):∀t,((bH t).map λa=>1+kW n a+4*n).sum=kW n t
 |0=>rfl
 |t+1=>by rw[iM,iy,List.sum_append,QL n t,kW];simp
theorem UI (j:∀b:X,b=65536->∀c d,cR b 3222 3072 1 (A c d)) (h:n<=12) (i:t<=12) (f:∀a,a<t->vH (1+kW n a+4*n) (L a)):vH (1+kW n t) (gG A l L t):=by
 intro b e c _ d _;have o:((ez l t t).map λa=>1+kW n a+4*n).sum<=kW n t:=(by have:=QM (λa=>1+kW n a+4*n) (λa=>br (gu l a=(t:Z))) (bH t);rwa[QL] at this);have m:=Md h i;have:=Mx (L:=L) (D:=λa=>1+kW n a+4*n) (cs:=ez l t t) (x:=jL A l L t) (k:=1) (λa g=>f a (uX.1 g).1) aa (λb e c d=>by
  show cR b 3222 3072 1 (if _ then _ else _);split
  ·grind
  exact cR.zero) b e c d
 exact this.mono (bd _) (bd _) aa
theorem Vi (g:l.length<=1000) (f:∀d∈l,d.2.2.1.length<=64):CA (l,(),())=Y (bq,()):=by
 have c:CC (l,(),())=Y (-1,()):=by
  unfold CC;refine bP.1 ?_;dsimp only;refine bE (P:=λb=>b=.inl ()) ?_ (by grind [bu]);refine bS l.length (λa b=>b=((a:Z),())) rfl ?_ ?_
  ·rintro a _ c rfl;dsimp only;rw[bg,aY (aH (aa:(a:Z)<(l.length:Z))),bk aa];refine bz (y:=l[a]) (by rw[fg,bR c]) ?_;have e:B8 (l[a],())=Y (bq,()):=by
    grind [bg,aF,b6,B8]
   refine bz e ?_;dsimp only;rw[bO];grind [bu]
  rintro _ rfl;dsimp only;rw[bg,a1 (aF (aa:¬(l.length:Z)<(l.length:Z)))];grind [bu]
 unfold CA;grind
end
structure Fw (n t:X) (RA:X->li) (L:X->aR):Prop where
 p:∀c,c<t->KD n (RA c) (L c)
 ex:∀c,c<t->vH (1+kW n c+4*n) (L c)
theorem aaF {l:bm dc} {n:X} {A:X->X->ag6} (q:hO j l) (x:j.length=n) (I:∀v w,cL (A v w)) (ds:∀K:X,K=65536->∀v w,cR K 3222 3072 1 (A v w)) (R:n<=12) {N:kS} {S:ahc} (d9:S.length=n) (d3:wZ (N,S,())=Y (Y (e,(j,()),i,()),0,())) (c2:∀v w:X,v<n->w<n->wY (Y (e,(j,()),i,()),(v:Z),(w:Z),())=Y (az (A v w),())) (dl:uA ((j,()),l,())=Y (0,())):uo (N,S,l,())=Y (kF A S l):=by
 have f5:=Dz q;have d0:∀t,(z:t<l.length)->al l (t:Z)=Y ((be l t:Z),(be l (t+1):Z),gR l (t:Z),gu l t,()):=λt z=>(by rw[fg];exact(ai0 q x z).g);have em:∀h∈l,h.2.2.1.length<=64:=λh ft=>(by obtain⟨t,u,rfl⟩:=ahY.1 ft;have B:=ai0 q x u;have F:=B.g;rw[bR u] at F;have G:=B.Bc;grind [ah0,gR,hF]);unfold uo;refine ah d3 ?_;dsimp only;rw[a1 (by rfl)];refine ah bn (ah dl ?_);dsimp only;rw[a1 (by rfl)];refine ah (Vi aa em) ?_;dsimp only;rw[bO,bg,ij aa,bN];refine bP.1 ?_;generalize f6:(Y (e,(j,()),i,()):vT)=H at*;refine bE (P:=λd=>(hX A l l.length=bo/\d=.inr (nI,233,()))\/∃L f,hX A l l.length=Y (L,f)/\d=.inl (nI,lv H f (jN L),())) ?_ ?_
 ·refine bS l.length (λt d=>∃L f k,hX A l t=Y (L,f)/\Fw n t k (λa=>L.getD a fF)/\d=((t:Z),nI,lv H f (jN L),aB l.length (λc=>(ez l t c).map λa=>(k a).enc),())) ?_ ?_ ?_
  ·refine⟨[],[],λ_=>⟨[],0,[],[]⟩,bn,⟨λa C=>by omega,λa C=>by omega⟩,?_⟩;rw[jj];rfl
  rotate_left
  ·rintro _ ⟨L,f,k,z,_,rfl⟩;dsimp only;rw[a1 (aF (aa:¬(l.length:Z)<(l.length:Z)))];grind [bu]
  rintro t _ u ⟨L,f,k,d5,Q,rfl⟩;dsimp only;rw[aY (aH (aa:(t:Z)<(l.length:Z))),bk aa];obtain⟨d2,o⟩:=q8 I q x aa d5;have B:=ai0 q x u;have ad:=o.tU I B;have fp:=o.Bx A I B;have fn:=UI (l:=l) ds R (aa:t<=12) Q.ex;have a3:=SR q x u o I (aa:n<=64) Q.p c2;have co:=i9.start ad aa;have gc:hX A l (t+1)=(ahz ((gG A l (λa=>L.getD a fF) t).full+1) (gG A l (λa=>L.getD a fF) t)).map λd=>(L++[d.1],f++d.2):=(by grind [hX]);have fs:=ad.full;generalize f9:gG A l (λa=>L.getD a fF) t=b at*;rw[<-Xn] at a3 co;have d4:iK b.rows b.full (bJ b.rows.length bp) (λN cs=>az (b.s (b.rows.getD N 0) (b.rows.getD cs 0))) b (1+kW n t):=⟨co,fn⟩;have f4:=Md R (aa:t<=12);obtain⟨ax,ge,gf⟩:=At o.eL;have f8:(f.flatMap a7.cD).length<=n:=(by have G:=o.perm.length_eq;rw[ahO,ah8] at G;have cv:=B.ws;have c1:=B.BB;omega);have f3:=L2 (n:=n) (L:=L) λa C=>(o.fl aa).1;have f7:n*L.length<=12*12:=Nat.mul_le_mul R aa;have ek:=aa7 d4 ad aa (aiB _) H (ps0:=f) aa aa (del:=jN L) aa;refine bE (P:=λd=>(hX A l (t+1)=bo/\d=.inr (.inr (.inr (nI,233,()))))\/∃M am T,hX A l (t+1)=Y (M,am)/\Fw n (t+1) T (λa=>M.getD a fF)/\d=.inl (nI,lv H am (jN M),aB l.length (λc=>(ez l (t+1) c).map λa=>(T a).enc),())) ?_ ?_
  rotate_left
  ·rintro _ (⟨F,rfl⟩|⟨M,am,T,F,G,rfl⟩)
   ·dsimp only;refine bu.2 (.inl ⟨?_,bn⟩);have G:=Ht F (l.length-(t+1));rwa[(aa:t+1+(l.length-(t+1))=l.length)] at G
   grind [bu]
  refine bz (d0 t u) ?_;have el:∀{fT:Type} (m:X->bm (bv c0)) (U:bm (bv c0)->bv fT),rd (aB l.length m) (t:Z) U=U (m t):=λm U=>(by unfold rd;rw[cY,eT u,bN,gn (ju u),bN]);rw[el];refine bz a3 ?_;dsimp only;refine bE (P:=λd=>(∃h E D y O,ahz (b.full+1) b=Y (h,E)/\d=(0,nI,lv H (f++E) (jN L+h.full),aB l.length (λc=>(ez l t c).map λa=>(k a).enc),((be l t:Z),(be l (t+1):Z),gR l (t:Z),gu l t,()),cF b.rows b.full D (eG b.rows.length y),())/\iK b.rows b.full D y h O/\O<=1+kW n t+4*b.full)\/(ahz (b.full+1) b=bo/\d.1=233)) ?_ ?_
  ·rw[aY (by rfl)];refine bE ek ?_;rintro gi (⟨h,E,D,y,O,F,rfl,cv,c1⟩|⟨F,G⟩)
   ·grind [bu]
   grind [bu]
  rintro d (⟨h,E,D,y,O,eq,rfl,a0,f1⟩|⟨eq,ci⟩)
  rotate_left
  ·obtain⟨f0,_⟩:=d;dsimp only at ci;subst ci;dsimp only;rw[aY (by rfl)];refine bu.2 (.inl ⟨by grind,bn⟩)
  dsimp only;rw[a1 (by rfl)];have a4:hX A l (t+1)=Y (L++[h],f++E):=(by grind);have bl:∀a,a<t->(L++[h]).getD a fF=L.getD a fF:=λa C=>(by rw[alu,alu,List.getElem?_append_left aa]);have bx:(L++[h]).getD t fF=h:=(by simp_all);generalize ce:(⟨b.rows,b.full,D,eG b.rows.length y⟩:li)=J;have d8:J.enc=Y (cF b.rows b.full D (eG b.rows.length y)):=(by rw[<-ce];rfl);have av:Fw n (t+1) (λa=>if a=t then J else k a) (λa=>(L++[h]).getD a fF):=by
   refine⟨λa C=>?_,λa C=>?_⟩
   ·by_cases m:a=t
    ·subst m;rw[au bn,bx,<-ce];exact⟨a0.r,fp⟩
    rw[aw m,bl a aa];exact Q.p a aa
   by_cases m:a=t
   ·subst m;rw[bx];intro K d1 v d6 w d7;have:=fs;exact(a0.ex K d1 v d6 w d7).mono (bd _) (bd _) aa
   rw[bl a aa];exact Q.ex a aa
  have V:∀c,((ez l t c).map λa=>((if a=t then J else k a):li).enc)=(ez l t c).map λa=>(k a).enc:=λc=>ik λa C=>(by have:=(uX.1 C).1;rw[aw aa]);rcases Ev q x u with⟨an,_⟩|⟨c,an,gl,ap,_⟩
  ·rw[a1 (aF (aa:¬gu l t>=0))];refine bu.2 (.inr ⟨L++[h],f++E,_,a4,av,?_⟩);rw[G4];have:(aB l.length λc=>(ez l (t+1) c).map λa=>((if a=t then J else k a):li).enc)=aB l.length λc=>(ez l t c).map λa=>(k a).enc:=c9 λc _=>by
    rw[yH,aw aa,V]
   grind
  rw[aY (aH (aa:gu l t>=0)),an];refine bz (eT (by grind [cY])) ?_;rw[gn (ju ap),aC];have f2:((ez l t c).map λa=>(k a).enc).length<=1000:=(by rw[e8];have:(ez l t c).length<=t:=(by unfold ez;grind);omega);rw[eB (by grind),aC];refine bz (eT (by grind [cY])) ?_;rw[aY ac,gn (ju ap),aC,gn (ju ap),aC];refine bu.2 (.inr ⟨L++[h],f++E,_,a4,av,?_⟩);rw[G4,hC];have:(aB l.length λc=>(ez l (t+1) c).map λa=>((if a=t then J else k a):li).enc)=aB l.length (eC (λc=>(ez l t c).map λa=>(k a).enc) c (((ez l t c).map λa=>(k a).enc)++[Y (cF b.rows b.full D (eG b.rows.length y))])):=c9 λfz _=>by
   rw[yH];by_cases m:fz=c
   ·subst m;rw[gM,au an,iy,V,tI,au bn,d8]
   rw[he _ _ m,aw aa,V]
  grind
 rintro d (⟨z,rfl⟩|⟨L,f,z,rfl⟩)
 ·unfold kF;grind [bu]
 dsimp only;unfold kF;rw[z];obtain⟨d2,o⟩:=q8 I q x (cc _) z;refine bz (aaT d9 R (o.all q x) o.eL _ H) ?_;grind [bu]
end
section
def EU (c:X->X->bA) (e d a b:X):bA:=c a b||(br (a=e)&&br (b=d))
theorem MA {n e:X}:aB b (eC (λd=>aB n (c d)) a (aB n (eC (c a) e bp)))=aB b (λd=>aB n (EU c a e d)):=
 c9 λd _=>by grind [he,c9,gM,EU]
def lB (a:X->X) (b:X):dc:=((a b:Z),(a (b+1):Z),[],-1,())
structure nT (G:ew) (n j F:X) (c:X->X) (T:X->X->bA):Prop where
 z:c 0=0
 e:c F=j
 m:∀f,f<F->c f<c (f+1)
 t:∀f i,f<F->i<n->(T f i=bp↔∃m,c f<=m/\m<c (f+1)/\(i:Z)∈g2 G m)
theorem Xl (e:∀d,d<a->k d<k (d+1)):∀c b,c<b->b<=a->k c<k b:=by
 intro c b f
 induction b with
 |zero=>omega
 |succ b g=>
  grind
theorem NB (d:∀c,c<a->k c<k (c+1)):∀b,b<=a->k 0+b<=k b:=by
 intro b
 induction b with
 |zero=>omega
 |succ b e=>
  grind
section
variable {G:ew} {n:X} (D:G.length=n) (B:fj G) (H:n<=7) {A:ahc} (C:A.length<=9223372036854775807)
include D B H C
theorem TP:ae (loop (σ:=(Z×jI×bm g8×bt)) (ρ:=kb) (λ(k,M,H,_)=>
 bif br (k<ak (aB n (g2 G))) then
 bB (α:=kb) (
 bB (α:=kb) (
 bB (α:=(bA×jI×bm g8×bt)) (bif (k==0)==bq then(uw (A,ay (900+k),())).bind λ(d1,_)=>
 (eM bC d1 7).bind λd4=>
 (i4 d4 3).bind λd5=>
 Y (br (d5>0),M,H,()) else Y (bp,M,H,())) λ(d2,N,I,_)=>
  bif d2 then
 (cG (N.length+([(k,(aP k,(([]:bi),((-1:Z),()))))]).length)).bind λ_=>
 (fX (ak (aB n (g2 G))) (ak (aB n (g2 G)))).bind λa0=>
 (cG (I.length+([bJ a0 bq]).length)).bind λ_=>
 Y ((N++[(k,(aP k,(([]:bi),((-1:Z),()))))]),(I++[bJ a0 bq]),()) else
 Y (N,I,())) λ(D,bx,_)=>
 (bj D.length (ay (ak D-1))).bind λV=>
 (bb D V λQ=>Y (D.set V (Q.1,(aP k,Q.2.2)))).bind λd9=>
 (loop (σ:=(Z×jI×bm g8×bt)) (ρ:=kb) (λ(L,av,x,_)=>
 (al (aB n (g2 G)) k).bind λd6=>
  bif br (L<ak d6) then
 (bj x.length (ay (ak D-1))).bind λK=>
 (al (aB n (g2 G)) k).bind λd7=>
 (al d7 L).bind λd8=>
 ((bb x K λa4=>Y a4).bind λbl=>bj bl.length d8).bind λam=>
 (bb x K λR=>(bb R am λ_=>Y (R.set am bp)).map λek=>x.set K ek).bind λel=>
 Y (.inl (aP L,av,el,())) else
 Y (.inr (av,x,()))) (0,d9,bx,())).bind λ(dl,ce,_)=>
 Y (dl,ce,())) λ(ds,ci,_)=>
 Y (.inl (aP k,ds,ci,())) else
 Y (.inr (M,H,()))) (0,[],[],())) (λd0=>∃f h i,nT G n n f h i/\d0=(aB f (lB h),aB f (λa=>aB n (i a)),())):=by
 refine bS n (λc O=>∃f h i,nT G n c f h i/\O=((c:Z),aB f (lB h),aB f (λa=>aB n (i a)),())) ⟨0,λ_=>0,λ_ _=>bq,⟨bn,bn,λa u=>absurd u (ajt _),λa g u=>absurd u (ajt _)⟩,bn⟩ ?_ ?_
 ·rintro c _ J ⟨f,h,i,j,rfl⟩;have fl:=NB j.m f (cc _);have fn:=j.z;have fp:=j.e;dsimp only;rw[bg,cY,aY (aH (aa:(c:Z)<(n:Z))),bk aa];refine bE (P:=λs=>∃(b:X) (d:X->X) (l:X->X->bA),d 0=0/\(∀a,a<b->d a<d (a+1))/\d b<=c/\b<=c/\(∀a g,a<b+1->g<n->(l a g=bp↔∃r,d a<=r/\r<eC d (b+1) (c+1) (a+1)/\(g:Z)∈g2 G r))/\s=(aB (b+1) (lB (eC d (b+1) (c+1))),aB (b+1) (λa=>aB n (l a)),())) ?_ ?_
  ·refine bE (P:=λs=>∃(b:X) (d:X->X) (l:X->X->bA) (F:Z),d 0=0/\(∀a,a<b->d a<d (a+1))/\d b<=c/\b<=c/\(∀a g,a<b+1->g<n->(l a g=bp↔∃r,d a<=r/\r<eC d (b+1) c (a+1)/\(g:Z)∈g2 G r))/\s=(aB (b+1) (eC (lB d) b ((d b:Z),F,[],-1,())),aB (b+1) (λa=>aB n (l a)),())) ?_ ?_
   ·refine bE (P:=λs=>∃E:bA,s=(E,aB f (lB h),aB f (λa=>aB n (i a)),())/\(E=bq->0<c)) ?_ ?_
    ·rw[gH];by_cases o:c=0
     ·rw[a1 (by simp[o])];grind [bu]
     rw[aY (by simp[o])];refine bE (Ke A C _) ?_;rintro⟨d3,_⟩ c1;dsimp only at c1|-;obtain⟨a3,c2⟩:∃a3,eM bC d3 7=some a3:=⟨_,b9 ab⟩;refine bz c2 ?_;unfold i4;rw[b9 ab,bN];grind [bu]
    rintro _ ⟨E,rfl,co⟩;dsimp only;cases E with
    |true=>
     rw[bG,eB (by grind [cY]),aC];refine bz (ij aa) ?_;rw[eB (by grind [cY]),aC];refine bu.2 ⟨f,h,(λa g=>if a<f then i a g else bq),((c+1:X):Z),j.z,j.m,aa,aa,?_,?_⟩
     ·intro a g v q;dsimp only;by_cases o:a<f
      ·rw[au o,he _ _ aa];exact j.t a g o q
      obtain rfl:a=f:=aa;rw[aw o,gM];grind
     have ao:aB f (lB h)++[((c:Z),((c+1:X):Z),([]:ahc),(-1:Z),())]=aB (f+1) (eC (lB h) f ((h f:Z),((c+1:X):Z),[],-1,())):=(by grind [c9,he,zI,gM]);have em:aB f (λa=>aB n (i a))++[bJ n bq]=aB (f+1) (λa=>aB n (λg=>if a<f then i a g else bq)):=(by simp_all [c9,au,aje,if_false,zI,jj]);grind
    |false=>
     have ft:=co bn;rw[bO];obtain⟨b,rfl⟩:∃b,f=b+1:=⟨f-1,by
      grind⟩
     have fz:=j.m b aa;refine bu.2 ⟨b,h,i,(c:Z),j.z,λa v=>j.m a aa,aa,aa,?_,?_⟩
     ·intro a g v q;rw[j.t a g v q];grind [he,gM]
     grind [c9,gM,he,lB]
   rintro _ ⟨b,d,l,F,T,U,ad,an,ap,rfl⟩;dsimp only;rw[bg,cY,show ay (((b+1:X):Z)-1)=(b:Z) by rw[(aa:((b+1:X):Z)-1=(b:Z)),cK aa aa]];refine bz (eT (aiB b)) ?_;rw[gW (aiB b),gM,hC];refine bz bn ?_;have ao:aB (b+1) (eC (eC (lB d) b ((d b:Z),F,[],-1,())) b ((d b:Z),((c+1:X):Z),[],-1,()))=aB (b+1) (lB (eC d (b+1) (c+1))):=c9 λa v=>by
    by_cases o:a=b
    ·simp_all [gM,he,lB]
    grind [he,lB]
   dsimp only;rw[ao];have cs:∀p,(u:p<(g2 G c).length)->∃g:X,(g2 G c)[p]=(g:Z)/\g<n:=λp u=>(by obtain⟨g,eq,ex,_⟩:=LU B (b6 u);grind);have fs:(g2 G c).length<=n:=(by grind [TA]);refine bE (P:=λs=>s=(aB (b+1) (lB (eC d (b+1) (c+1))),aB (b+1) (λa=>aB n (λw=>l a w||(br (a=b)&&br ((w:Z)∈g2 G c)))),())) ?_ ?_
   ·refine bS (g2 G c).length (λp O=>O=((p:Z),aB (b+1) (lB (eC d (b+1) (c+1))),aB (b+1) (λa=>aB n (λw=>l a w||(br (a=b)&&br ((w:Z)∈(g2 G c).take p)))),())) ?_ ?_ ?_
    ·simp
    ·rintro p _ S rfl;dsimp only;refine bz (rj J) ?_;rw[bg,aY (aH (aa:(p:Z)<((g2 G c).length:Z))),cY];refine bz (eT (aiB b)) ?_;refine bz (rj J) (bz (eY S) ?_);obtain⟨g,q,cv⟩:=cs p S;rw[q,gW (aiB b)];refine bz (y:=g) (by grind [eT,cY]) ?_;rw[gW (aiB b),gW cv,hC,ajs,hC,MA,bk aa];refine bz bn (bu.2 ?_);congr 3;refine c9 λa _=>c9 λw _=>?_;grind [ct,bR,EU]
    rintro _ rfl;dsimp only;refine bz (rj J) ?_;rw[bg,a1 (aF (aa:¬(((g2 G c).length:X):Z)<((g2 G c).length:Z))),cB];grind [bu]
   rintro _ rfl;dsimp only;refine bu.2 ⟨b,d,_,T,U,ad,an,?_,bn⟩;intro a g v q;rw[Bool.or_eq_true,ap a g v q];by_cases o:a=b
   ·subst o;rw[gM,gM];grind
   grind [he]
  rintro _ ⟨b,d,l,T,U,ad,an,ap,rfl⟩;dsimp only;refine bu.2 ⟨b+1,eC d (b+1) (c+1),l,⟨?_,gM _ _ _,?_,?_⟩,bn⟩
  ·grind [he]
  ·grind [he,gM]
  grind [he]
 rintro _ ⟨f,h,i,j,rfl⟩;dsimp only;rw[bg,cY,a1 (aF (aa:¬((n:Z)<(n:Z))))];grind [bu]
end
end
section
theorem adH (a:X->n) (b:X):eC a b (a b)=a:=by grind [eC]
theorem Rd (b:X->n) (a:X) (d c:n):eC (eC b a d) a c=eC b a c:=by grind [eC]
def hG (a:X->X->bA) (b c:X):ahc:=((bH c).filter (a b)).map λd:X=>(d:Z)
theorem Qm:hG c b (a+1)=if c b a=bp then hG c b a++[(a:Z)] else hG c b a:=by grind [ahG,hG]
theorem Ql {T:X->X->bA} {f i:X}:(hG T f i).length<=i:=by grind [cA,ahF,cj,hG]
def pG (c:X->X) (F:X) (e:X->X->bA) (b g:X) (h:Z):Prop:=
 (h=-1/\∀a,a<g->e b a=bp->a<c (b+1))\/
 (∃a d:X,a<g/\e b a=bp/\c (b+1)<=a/\(∀f,f<a->e b f=bp->f<c (b+1))/\h=(d:Z)/\b<d/\d<F/\c d<=a/\a<c (d+1))
def kL (c:X->X) (b:X->X->bA) (d f:X) (g:Z) (e a:X):bA:=b e a||(br (g=(e:Z))&&br (c (d+1)<=a)&&br (a<f)&&b d a)
structure na (G:ew) (n F:X) (c:X->X) (vX:X->X->bA) (f:X) (T:X->X->bA) (g:X->dc):Prop where
 sub:∀m x,m<F->x<n->vX m x=bp->T m x=bp
 sup:∀m x,m<F->x<n->T m x=bp->c m<=x
 s9:∀m,m<f->∃q,pG c F T m n q/\g m=((c m:Z),(c (m+1):Z),hG T m n,q,())/\∀p:X,q=(p:Z)->∀x,c (m+1)<=x->x<n->T m x=bp->T p x=bp
 new:∀m,f<=m->m<F->g m=lB c m
section
variable {G:ew} {n F:X} {c:X->X} {vX:X->X->bA} (C:G.length=n) (B:fj G) (D:n<=7) (A:nT G n n F c vX)
include C B D A
theorem nT.yc:F<=n:=by have:=NB A.m F (bd _);have:=A.e;omega
theorem nT.le (f:b<=a) (e:a<=F):c b<=c a:=by
 rcases cS b a with d|d
 ·exact Nat.le_of_lt (Xl A.m b a d e)
 grind
theorem nT.own (g:a<n):∃b,b<F/\c b<=a/\a<c (b+1):=by
 have h:∀d,d<=F->a<c d->∃b,b<d/\c b<=a/\a<c (b+1):=by
  intro d
  induction d with
  |zero=>intro _ f;rw[A.z] at f;omega
  |succ d i=>
   grind
 exact h F (bd _) (by rw[A.e];exact g)
theorem nT.sup (e:a<F) (f:b<n) (d:vX a b=bp):c a<=b:=by obtain⟨j,g,h,i⟩:=(A.t a b e f).1 d;grind [LU]
theorem nT.diag (g:a<F) (d:c a<=b) (f:b<c (a+1)):vX a b=bp:=by have h:=A.le C B D (aa:a+1<=F) (bd _);have i:=A.e;obtain⟨k,j,_⟩:=Tz B (aa:b<G.length);exact(A.t a b g aa).2 ⟨b,d,f,by grind⟩
theorem aaI {T:X->X->bA} (ad:a<F) (G:b<n) (av:c (a+1)<=b) {g:X->dc} {has:bm g8} (z:∀d,d<F->(g d).1=(c d:Z)/\(g d).2.1=(c (d+1):Z)):ae (loop (σ:=(Z×jI×bm g8×bt)) (ρ:=kb) (λ(i,f,p,_)=>
 bif br (i<ak f) then
 bB (α:=kb) (
 bB (α:=(bA×jI×bm g8×bt)) (
 (bj f.length i).bind λH=>
 (bb f H λw=>Y w.1).bind λO=>
  bif br ((b:Z)>=O)==bp then(bj f.length i).bind λI=>
 (bb f I λx=>Y x.2.1).bind λQ=>
 Y (br ((b:Z)<Q),f,p,()) else Y (bq,f,p,())) λ(N,o,r,_)=>
  bif N then
 (bj o.length (a:Z)).bind λt=>
 (bb o t λk=>Y (o.set t (k.1,(k.2.1,(k.2.2.1,(i,k.2.2.2.2)))))).bind λR=>
 Y (R,r,()) else
 Y (o,r,())) λ(J,y,_)=>
 Y (.inl (aP i,J,y,())) else
 Y (.inr (f,p,()))) (aP (a:Z),aB F g,has,())) (λL=>∃e:X,a<e/\e<F/\c e<=b/\b<c (e+1)/\L=(aB F (eC g a ((g a).1,(g a).2.1,(g a).2.2.1,(e:Z),())),has,())):=by
 have V:=A.yc C B D;obtain⟨e,K,a0,a3⟩:=A.own C B D G;have am:a<e:=by
  rcases cS a e with h|h
  ·exact h
  have:=A.le C B D (aa:e+1<=a+1) aa;omega
 refine(bS (F-(a+1)) (λm M=>M=(((a+1+m:X):Z),aB F (if e<a+1+m then eC g a ((g a).1,(g a).2.1,(g a).2.2.1,(e:Z),()) else g),has,())) ?_ ?_ ?_)
 ·rw[bk aa,aw aa]
 ·rintro m _ an rfl;dsimp only;generalize ap:a+1+m=d;have j:d<F:=aa;rw[bg,cY,aY (aH (aa:(d:Z)<(F:Z)))];generalize E:(if e<d then eC g a ((g a).1,(g a).2.1,(g a).2.2.1,(e:Z),()) else g)=q;have s:(q d)=g d:=by
   rw[<-E];grind [he]
  obtain⟨u,v⟩:=z d j;refine bE (P:=λh=>h=(aB F (if e<d+1 then eC g a ((g a).1,(g a).2.1,(g a).2.2.1,(e:Z),()) else g),has,())) ?_ ?_
  ·refine bE (P:=λh=>h=(br (d=e),aB F q,has,())) ?_ ?_
   ·refine bz (eT j) ?_;rw[gW j,s,u];refine bz bn ?_;by_cases S:c d<=b
    ·rw[aY (by grind)];refine bz (eT j) ?_;rw[gW j,s,v];refine bz bn (bu.2 ?_);by_cases l:d=e
     ·rw[aH l,aH (show(b:Z)<(c (d+1):Z) by grind)]
     have:¬b<c (d+1):=λU=>by
      rcases cS d e with h|h
      ·have:=A.le C B D (aa:d+1<=e) aa;omega
      have:=A.le C B D (aa:e+1<=d) aa;omega
     grind
    rw[a1 (by grind),aF (show¬d=e by grind)];grind [bu]
   rintro _ rfl;dsimp only;by_cases l:d=e
   ·rw[aY (aH l)];simp_all [bz,bu,gW,hC,au,eT,cY]
   rw[a1 (aF l)];grind [bu]
  grind [bk,bu]
 rintro _ rfl;dsimp only;rw[bg,cY,(aa:a+1+(F-(a+1))=F),a1 (aF (aa:¬((F:Z)<(F:Z)))),b9 K];grind [bu]
theorem aca {d:X->X->bA} {l:X->dc} (q:a<F) (R:na G n F c vX a d l):ae (loop (σ:=(Z×jI×bm g8×bt)) (ρ:=kb) (λ(s,t,v,_)=>
 bif br (s<ak (aB n (g2 G))) then
 bB (α:=kb) (
 (bj v.length (a:Z)).bind λcs=>
 ((bb v cs λd2=>Y d2).bind λd3=>bj d3.length s).bind λf3=>
 (bb v cs λd4=>bb d4 f3 λd5=>Y d5).bind λhs=>
  bif !hs then
 Y (t,v,()) else
 (bj t.length (a:Z)).bind λcv=>
 (bb t cv λd6=>Y d6.2.2.1).bind λgt=>
 (cG (gt.length+([s]).length)).bind λ_=>
 (bj t.length (a:Z)).bind λU=>
  bif bI cv U&&bp then
 (bb t U λd7=>Y d7.2.2.1).bind λhc=>
 (bb t U λam=>Y (t.set U (am.1,(am.2.1,((hc++[s]),am.2.2.2))))).bind λE=>
 bB (α:=kb) (
 bB (α:=(bA×jI×bm g8×bt)) (
 (bj E.length (a:Z)).bind λf4=>
 (bb E f4 λd8=>Y d8.2.1).bind λhv=>
  bif br (s>=hv)==bp then(bj E.length (a:Z)).bind λf5=>
 (bb E f5 λd9=>Y d9.2.2.2.1).bind λhw=>
 Y (br (hw<0),E,v,()) else Y (bq,E,v,())) λ(go,c2,a4,_)=>
  bif go then
 (loop (σ:=(Z×jI×bm g8×bt)) (ρ:=kb) (λ(H,u,ap,_)=>
  bif br (H<ak u) then
 bB (α:=kb) (
 bB (α:=(bA×jI×bm g8×bt)) (
 (bj u.length H).bind λf6=>
 (bb u f6 λek=>Y ek.1).bind λib=>
  bif br (s>=ib)==bp then(bj u.length H).bind λf7=>
 (bb u f7 λel=>Y el.2.1).bind λic=>
 Y (br (s<ic),u,ap,()) else Y (bq,u,ap,())) λ(gs,V,bl,_)=>
  bif gs then
 (bj V.length (a:Z)).bind λc1=>
 (bb V c1 λQ=>Y (V.set c1 (Q.1,(Q.2.1,(Q.2.2.1,(H,Q.2.2.2.2)))))).bind λio=>
 Y (io,bl,()) else
 Y (V,bl,())) λ(gc,fp,_)=>
 Y (.inl (aP H,gc,fp,())) else
 Y (.inr (u,ap,()))) (aP (a:Z),c2,a4,())).bind λ(f8,fl,_)=>
 Y (f8,fl,()) else
 Y (c2,a4,())) λ(z,L,_)=>
 (bj z.length (a:Z)).bind λf1=>
 (bb z f1 λdl=>Y dl.2.1).bind λhi=>
  bif br (s>=hi) then
 (bj z.length (a:Z)).bind λf2=>
 (bb z f2 λds=>Y ds.2.2.2.1).bind λhr=>
 (bj L.length hr).bind λa0=>
 ((bb L a0 λd0=>Y d0).bind λd1=>bj d1.length s).bind λco=>
 (bb L a0 λa3=>(bb a3 co λ_=>Y (a3.set co bp)).map λid=>L.set a0 id).bind λii=>
 Y (z,ii,()) else
 Y (z,L,()) else bo) λ(f9,fn,_)=>
 Y (.inl (aP s,f9,fn,())) else
 Y (.inr (t,v,()))) ((c a:Z),aB F l,aB F (λa=>aB n (d a)),())) (λx=>∃j,pG c F d a n j/\x=(aB F (eC l a ((c a:Z),(c (a+1):Z),hG d a n,j,())),aB F (λh=>aB n (kL c d a n j h)),())):=by
 have i2:=A.yc C B D;have jp:=A.le C B D (aa:a+1<=F) (bd _);have i8:=A.e;have lc:=A.m a q;have fz:l a=lB c a:=R.new a (bd _) q;have kd:∀h,h<F->(l h).1=(c h:Z)/\(l h).2.1=(c (h+1):Z):=λh bx=>by
  rcases cS h a with r|r
  ·obtain⟨j,_,K,_⟩:=R.s9 h r;grind
  rw[R.new h r bx];exact⟨bn,bn⟩
 refine bS (n-c a) (λw gl=>∃j,pG c F d a (c a+w) j/\gl=(((c a+w:X):Z),aB F (eC l a ((c a:Z),(c (a+1):Z),hG d a (c a+w),j,())),aB F (λh=>aB n (kL c d a (c a+w) j h)),())) ?_ ?_ ?_
 ·have ao:hG d a (c a)=[]:=by
   unfold hG;rw[akh.2 λk S r=>?_]
   ·rfl
   have J:=h9.1 S;have:=R.sup a k q aa r;omega
  refine⟨-1,.inl ⟨bn,λk S r=>?_⟩,?_⟩
  ·omega
  rw[mQ,ao];congr 2
  ·have:eC l a ((c a:Z),(c (a+1):Z),([]:ahc),(-1:Z),())=l:=by
    rw[show((c a:Z),(c (a+1):Z),([]:ahc),(-1:Z),())=l a from fz.symm,adH]
   grind
  simp_all [c9,aF,kL]
 ·rintro w _ lb ⟨j,M,rfl⟩;dsimp only;generalize kg:c a+w=b at*;have av:b<n:=aa;rw[bg,cY,aY (aH (aa:(b:Z)<(n:Z))),(aa:c a+(w+1)=b+1)];have fT:kL c d a b j a b=d a b:=by
   grind [aF,kL]
  refine bE (P:=λx=>∃p,pG c F d a (b+1) p/\x=(aB F (eC l a ((c a:Z),(c (a+1):Z),hG d a (b+1),p,())),aB F (λh=>aB n (kL c d a (b+1) p h)),())) ?_ ?_
  ·refine bz (eT (by grind [cY])) ?_;rw[gW q];refine bz (y:=b) (by grind [eT,cY]) ?_;rw[gW q,gW av,fT];refine bz bn ?_;cases an:d a b with
   |false=>
    rw[aY (by rfl)];refine bu.2 ⟨j,?_,?_⟩
    ·rcases M with⟨ax,p⟩|⟨k,o,ax,p⟩
     ·refine .inl ⟨ax,λk S r=>?_⟩;grind
     exact .inr ⟨k,o,aa,p⟩
    rw[Qm,an,aw ab];congr 2;refine c9 λh _=>c9 λk _=>?_;grind [aH,aF,kL]
   |true=>
    rw[a1 (by rfl)];refine bz (eT (by grind [cY])) ?_;rw[gW q,gM];refine bz bn ?_;have lk:=Ql (T:=d) (f:=a) (i:=b);rw[eB (by grind),bN];refine bz (eT (by grind [cY])) ?_;rw[aY (by simp_all),gW q,gM];refine bz bn ?_;rw[gW q,gM,hC,Rd];refine bz bn ?_;have f0:hG d a b++[(b:Z)]=hG d a (b+1):=(by rw[Qm,b9 an]);dsimp only;rw[f0];refine bE (P:=λx=>∃p,x=(aB F (eC l a ((c a:Z),(c (a+1):Z),hG d a (b+1),p,())),aB F (λh=>aB n (kL c d a b j h)),())/\((b<c (a+1)/\p=j)\/(c (a+1)<=b/\∃o:X,p=(o:Z)/\o<F/\(j=p\/(j=-1/\∀k,k<b->d a k=bp->k<c (a+1)))))/\pG c F d a (b+1) p) ?_ ?_
    ·refine bE (P:=λx=>∃O:bA,x=(O,aB F (eC l a ((c a:Z),(c (a+1):Z),hG d a (b+1),j,())),aB F (λh=>aB n (kL c d a b j h)),())/\(O=bp↔c (a+1)<=b/\j<0)) ?_ ?_
     ·refine bz (eT (by grind [cY])) ?_;rw[gW q,gM];refine bz bn ?_;dsimp only;by_cases I:c (a+1)<=b
      ·rw[aY (by grind)];grind [bz,bu,gW,gM,eT,cY]
      rw[a1 (by grind)];grind [bu]
     rintro _ ⟨O,rfl,fs⟩;dsimp only;cases O with
     |true=>
      obtain⟨ad,is⟩:=fs.1 bn;rw[bG];have ci:j=-1/\∀k,k<b->d a k=bp->k<c (a+1):=by
       rcases M with r|⟨k,o,J,K,em,eq,ex,_⟩
       ·exact r
       omega
      refine bE (aaI (T:=d) C B D A q av ad (g:=eC l a ((c a:Z),(c (a+1):Z),hG d a (b+1),j,())) (has:=aB F (λh=>aB n (kL c d a b j h))) (λh bx=>?_)) ?_
      ·grind [he,gM]
      rintro _ ⟨o,ge,N,gf,gi,rfl⟩;dsimp only;refine bu.2 ⟨(o:Z),?_,.inr ⟨ad,o,bn,N,.inr ci⟩,.inr ⟨b,o,aa,an,ad,ci.2,bn,ge,N,gf,gi⟩⟩;rw[gM,Rd]
     |false=>
      rw[bO];refine bu.2 ⟨j,bn,?_,?_⟩
      ·rcases cS b (c (a+1)) with I|I
       ·omega
       refine .inr ⟨I,?_⟩;rcases M with r|⟨k,o,J,K,em,eq,ex,i0,i1,_⟩
       ·grind
       grind
      rcases M with⟨J,K⟩|⟨k,o,J,K⟩
      ·refine .inl ⟨J,λk S i3=>?_⟩;grind
      exact .inr ⟨k,o,aa,K⟩
    rintro _ ⟨p,rfl,ft,ce⟩;dsimp only;refine bz (eT (by grind [cY])) ?_;rw[gW q,gM];refine bz bn ?_;dsimp only;rcases ft with⟨I,rfl⟩|⟨I,o,rfl,N,lf⟩
    ·rw[a1 (aF (aa:¬(b:Z)>=(c (a+1):Z)))];refine bu.2 ⟨p,ce,?_⟩;congr 2;refine c9 λh _=>c9 λk _=>?_;grind [aF,aH,kL]
    rw[aY (aH (aa:(b:Z)>=(c (a+1):Z)))];refine bz (eT (by grind [cY])) ?_;rw[gW q,gM];refine bz bn ?_;dsimp only;refine bz (eT (by grind [cY])) ?_;rw[gW N];refine bz (y:=b) (by grind [eT,cY]) ?_;rw[gW N,gW av,hC,ajs,hC,MA];refine bz bn (bu.2 ⟨(o:Z),ce,?_⟩);congr 2;refine c9 λh _=>c9 λk _=>?_;grind [EU,kL]
  grind [bk,bu]
 rintro _ ⟨j,M,rfl⟩;dsimp only;rw[(aa:c a+(n-c a)=n)] at*;rw[bg,cY,a1 (aF (aa:¬((n:Z)<(n:Z))))];grind [bu]
end
end
section
theorem pG.congr {c:X->X} {F:X} {d:X->X->bA} (g:f a=d a) (h:pG c F f a b e):pG c F d a b e:=by simp_all [pG]
theorem Qk (d:c a=f a):hG c a b=hG f a b:=by grind [hG]
section
variable {G:ew} {n F:X} {c:X->X} {A:X->X->bA} (B:G.length=n) (C:fj G) (D:n<=7) (H:nT G n n F c A)
include B C D H
theorem na.next (L:a<F) (j:na G n F c A a f m) (l:pG c F f a n e):na G n F c A (a+1) (kL c f a n e) (eC m a ((c a:Z),(c (a+1):Z),hG f a n,e,())):=by
 have i:∀b,b<=a->kL c f a n e b=f b:=λb h=>by
  funext g;unfold kL;have:¬e=(b:Z):=by rcases l with⟨d,_⟩|⟨g,p,_,_,_,_,d,k,_⟩<;>omega
  grind
 have v:∀b g,f b g=bp->kL c f a n e b g=bp:=λb g d=>(by grind [kL]);refine⟨λb g h o d=>v _ _ (j.sub b g h o d),λb g h o d=>?_,λb h=>?_,λb h t=>?_⟩
 ·unfold kL at d;rw[jl] at d;rcases d with d|d
  ·exact j.sup b g h o d
  simp only[cC,ahD] at d;obtain⟨⟨⟨q,k⟩,s⟩,K⟩:=d;rcases l with⟨ax,_⟩|⟨M,p,y,z,B,C,D,E,H,I,J⟩
  ·omega
  grind
 ·rcases cS b a with d|d
  ·obtain⟨ax,q,k,s⟩:=j.s9 b d;refine⟨ax,q.congr (i b aa).symm,?_,λp u g w x r=>?_⟩
   ·rw[he _ _ aa,k,Qk (i b aa)]
   rw[i b aa] at r;grind
  obtain rfl:b=a:=aa;refine⟨e,l.congr (i b aa).symm,?_,λp u g w x r=>?_⟩
  ·rw[gM,Qk (i b aa)]
  grind [aH,kL]
 rw[he _ _ aa];exact j.new b aa t
end
theorem HG {l:fJ} {m:ahc} {aE:fJ} {o:Z} {G:ew} {p:Z} {n:X} (B:G.length=n) (C:fj G) (D:n<=7) (t:m.length<=9223372036854775807) (q:sw (l,())=Y (aE,e,())) (r:sx (aE,())=Y ((j,()),o,())) (s:q2 ((j,()),g,())=Y ((G,()),p,())):ae (ze (l,g,m,())) (λk=>∃F c A b a,nT G n n F c A/\na G n F c A F b a/\k=(aB F a,())):=by
 unfold ze;refine bz q (bz r (bz s ?_));refine bz (abQ C aa) ?_;dsimp only;rw[B];refine bE (TP B C D t) ?_;rintro _ ⟨F,c,A,H,rfl⟩;dsimp only;have z:=H.yc B C D;refine bE (P:=λk=>∃b a,na G n F c A F b a/\k=(aB F a,())) ?_ ?_
 ·refine bS F (λd y=>∃b a,na G n F c A d b a/\y=((d:Z),aB F a,aB F (λd=>aB n (b d)),())) ⟨A,lB c,⟨λ_ _ _ _ f=>f,λx I u w f=>H.sup B C D u w f,λx f=>absurd f (ajt _),λ_ _ _=>rfl⟩,bn⟩ ?_ ?_
  ·rintro d _ h ⟨b,a,i,rfl⟩;dsimp only;rw[bg,cY F,aY (aH (aa:(d:Z)<(F:Z)))];refine bz (eT h) ?_;rw[gW h,i.new d (cc _) h];refine bz bn ?_;refine bE (aca B C D H h i) ?_;rintro _ ⟨E,v,rfl⟩;dsimp only;rw[bk aa];exact bu.2 ⟨_,_,i.next B C D H h v,bn⟩
  rintro _ ⟨b,a,i,rfl⟩;dsimp only;rw[bg,cY F,a1 (aF (aa:¬((F:Z)<(F:Z))))];grind [bu]
 grind [bu]
theorem U6 {P:X->bA} {a b:X} (i:∀c,c<a->P c=bq) (j:∀c,a<=c->c<b->P c=bp) (k:a<=b):∀e,(bH (b+e)).filter P=ahf a (b-a)++(((bH (b+e)).filter P).filter λc=>br (b<=c)):=by
 have h:∀d,a+d<=b->(bH (a+d)).filter P=ahf a d:=by
  intro d
  induction d with
  |zero=>
   simp_all
  |succ d f=>
   grind [aiJ,ahG,List.filter_cons_of_pos,akn]
 intro e
 induction e with
 |zero=>
  have:=h (b-a) aa;simp_all
 |succ e f=>
  rw[<-aiJ,iM,pz,pz,<-jb,<-f];congr 1;cases g:P (b+e)<;>simp[g]
end
section
section
variable {G:ew} {n F:X} {c:X->X} {I T:X->X->bA} {g:X->dc} (C:G.length=n) (D:fj G) (H:n<=7) (A:nT G n n F c I) (B:na G n F c I F T g)
include C D H A B
theorem na.be {a:X} (e:a<=F):be (aB F g) a=c a:=by
 cases a with
 |zero=>exact A.z.symm
 |succ a=>
  obtain⟨f,_,d,_⟩:=B.s9 a aa;show(Option.map (λb:dc=>b.2.1.toNat) (aB F g)[a]?).getD 0=c (a+1);grind [ju]
theorem Iq {k x:X}:(x:Z)∈hG T k n↔x<n/\T k x=bp:=by unfold hG;grind
theorem Qj (a:X):(hG T a n).Pairwise (· < ·):=by unfold hG;rw[oM];exact(List.pairwise_lt_range.filter _).imp λb=>by omega
theorem na.rows {f:X} (g:f<F):∃i:ahb,hG T f n=(ahf (c f) (c (f+1)-c f)++i).map (λd:X=>(d:Z))/\∀d,d∈i↔c (f+1)<=d/\d<n/\T f d=bp:=by
 have q:=A.le C D H (aa:f+1<=F) (bd _);have r:=A.e;have s:=A.m f g;have:=U6 (P:=λd=>br (d<n)&&T f d) (a:=c f) (b:=c (f+1)) (λd h=>by
  by_cases p:d<n
  ·cases j:T f d with
   |false=>simp
   |true=>have:=B.sup f d g p j;omega
  omega) (λd l o=>by
   show(br (d<n)&&T f d)=bp;rw[aH (aa:d<n),B.sub f d g aa (A.diag C D H g l o)];rfl) aa (n-c (f+1))
 rw[(aa:c (f+1)+(n-c (f+1))=n)] at this;have k:(bH n).filter (λd=>br (d<n)&&T f d)=(bH n).filter (T f):=pA λd h=>(by rw[aH (h9.1 h),ajd]);rw[k] at this;refine⟨((bH n).filter (T f)).filter λd=>br (c (f+1)<=d),?_,?_⟩
 ·grind [hG]
 grind
theorem na.Vj:hO G (aB F g):=by
 have d4:=A.yc C D H;have a0:=A.e;have O:∀a,a<=F->jm.be (aB F g) a=c a:=λa b=>B.be C D H A b;have N:lM n (aB F g):=by
  refine⟨λa b=>?_,by rw[cY,O F (bd _),a0]⟩;rw[cY] at b;obtain⟨z,_,j,_⟩:=B.s9 a b;have s:=A.m a b;have d3:=A.le C D H (aa:a+1<=F) (bd _);refine⟨g a,ju b,?_,?_,?_⟩
  ·rw[j,O a aa]
  ·grind
  grind
 have ce:∀f,f<F->gR (aB F g) (f:Z)=hG T f n:=λf R=>(by obtain⟨z,_,j,_⟩:=B.s9 f R;grind [td,cY,lx]);have bs:∀{f i:X},f<F->c f<=i->i<c (f+1)->hk (jm.be (aB F g)) i (aB F g).length=(f:Z):=λ{f i} R d2 j=>(by have s:=cY F g;exact wv (m:=(aB F g).length) (λa b=>⟨b,N.1 a b⟩) aa (by grind) (by grind) _ aa (bd _));unfold hO;rw[C];refine⟨N,λa b=>?_,λa b=>?_,λad d w=>?_⟩
 ·rw[cY] at b;rw[lx];obtain⟨z,_,j,_⟩:=B.s9 a b;obtain⟨h,S,p⟩:=B.rows C D H A b;have s:=A.m a b;have bl:(hG T a n).length=(c (a+1)-c a)+h.length:=(by grind);have u:=Qj C D H A B a;have q:((c (a+1):Z)-(c a:Z)).toNat=c (a+1)-c a:=aa;rw[j];unfold jH;dsimp only;rw[q];refine⟨aa,λd _ P l=>⟨λQ=>?_,λv=>?_⟩⟩
  ·simp_all
  dsimp only at v l|-;rw[q] at v;have y:(hG T a n)[d]=((h[d-(c (a+1)-c a)]'(by omega):X):Z):=by simp_all
  have o:=(p _).1 (cO (aa:d-(c (a+1)-c a)<h.length));refine⟨aa,aa,?_⟩;exact(h0.1 u) (d-1) d aa aa aa
 ·rw[cY] at b;rw[lx];obtain⟨z,bx,j,d6⟩:=B.s9 a b;obtain⟨h,S,p⟩:=B.rows C D H A b;have s:=A.m a b;have bl:(hG T a n).length=(c (a+1)-c a)+h.length:=(by grind);have u:=Qj C D H A B a;have q:((c (a+1):Z)-(c a:Z)).toNat=c (a+1)-c a:=aa;have y:∀d (l:d<(hG T a n).length),c (a+1)-c a<=d->∃i,i∈h/\(hG T a n)[d]=(i:Z):=λd l v=>by
   refine⟨h[d-(c (a+1)-c a)]'(by omega),cO _,?_⟩
   simp_all
  rw[j];unfold ja;dsimp only;rw[q];rcases bx with⟨ax,d9⟩|⟨I,f,K,L,ap,cs,rfl,cv,c1,c2,dl⟩
  ·refine .inl ⟨?_,ax⟩;have:h=[]:=List.eq_nil_iff_forall_not_mem.2 λi d8=>by
    grind
   grind
  have co:=(p I).2 ⟨ap,K,L⟩;have d7:0<h.length:=List.length_pos_of_mem co;refine .inr ⟨aa,?_,λd P l=>?_⟩
  ·obtain⟨J,V,a3⟩:=y (c (a+1)-c a) aa (bd _);obtain⟨ds,d0,d1⟩:=(p J).1 V;have d5:J<=I:=by
    obtain⟨E,ci,U⟩:=ho.1 ((Iq (x:=I) C D H A B (k:=a)).2 ⟨K,L⟩);rcases cS E (c (a+1)-c a) with av|av
    ·simp only[S,iy] at U;rw[List.getElem_append_left (by grind)] at U;grind
    rcases cS (c (a+1)-c a) E with M|M
    ·have:=(h0.1 u) _ E aa ci M;omega
    grind
   grind [ahR,cl]
  obtain⟨J,V,a3⟩:=y d l P;grind [Iq]
 intro Q;have a4:ad<n:=(by obtain⟨l,_⟩:=w;omega);have o:d<n:=(by have:=w.lt D;omega);obtain⟨f,r,am,an⟩:=A.own C D H a4;rw[bs r am an,ce f r];refine(Iq C D H A B).2 ⟨o,B.sub f d r o ((A.t f d r o).2 ⟨ad,am,an,uY.2 ⟨aa,.inr ⟨Q,?_⟩⟩⟩)⟩;exact .one w
end
end
theorem abp {b c:ahc} (d:jq a a b g c) (e:gI a a b g c≠0):sw (((a:Z),(a:Z),b,g,c,()),())=Y ((0,0,[],[],[],()),gI a a b g c,()):=by unfold sw;refine ah d.xO ?_;grind
def abn:sx ((0,0,[],[],[],()),())=Y (([],()),1,()):=by unfold sx;refine ah (y:=((1:Z),())) rfl ?_;rfl
def Fi:fj []:=HC []
theorem abr (a:ahc):∃c,q2 (([],()),a,())=Y (([],()),c,()):=by
 rw[Jr (λe d=>by cases d)];by_cases b:mE [] a=0
 ·rw[au b];refine⟨0,?_⟩;have:a=[]:=by
   unfold mE at b;grind
  subst this;rfl
 simp_all
theorem na.small {e:X->dc} (l:j.length=a) (n:fj j) (o:a<=7) (g:nT j a a b k c) (i:na j a b k c b f e):(aB b e).length<=a/\∀h∈aB b e,0<h.2.2.1.length/\h.2.2.1.length<=a:=by have t:=g.yc l n o;refine⟨by grind [cY],λh q=>?_⟩;obtain⟨p,d,rfl⟩:=ho.1 q;rw[cY] at d;rw[lx];obtain⟨v,_,r,_⟩:=i.s9 p d;obtain⟨w,u,_⟩:=i.rows l n o g d;have s:=g.m p d;grind [Ql]
theorem Vu {b:X} {c d:ahc} (z:a<=b) (Q:b<=7) (y:gI a a c g d=0->mN a c g d) (u:jq a a c g d) {h L:ahc} (q:L.length<=9223372036854775807):ae (ze (((a:Z),(a:Z),c,g,d,()),h,L,())) (λU=>∃m:jI,U=(m,())/\m.length<=b/\(∀e∈m,0<e.2.2.1.length/\e.2.2.1.length<=b)/\(EW a a c g d h=0->hO (l1 a (gZ (cX c g d a)) h) m)):=by
 classical
 have v:a<=7:=dh z Q;by_cases f:gI a a c g d=0
 ·have t:=(jM.1 f).1;have N:=(jM.1 f).2;have M:=p0 t a (bd _);have O:=q6 t;have V:=(y f).el;have P:=p1 t u.hw;have R:=p1 t (Dv N);have K:=xv M;have J:=xu O;have T:=JJ (rows:=a) (c3:=a) (E:=gZ (cX c g d a)) aa aa aa (λB A=>P B (hx.1 A).1);have S:=Ga K J (λB A=>R B (hx.1 A).1);have x:=PH T S;rw[Hl K J] at x;by_cases r:ga h a
  ·refine(HG (zP r) (zQ a (gZ (cX c g d a)) h) v q (Jh (y f) u f) x (PI (dh v ab) r)).mono ?_;rintro _ ⟨C,H,F,D,I,k,l,rfl⟩;obtain⟨o,i⟩:=l.small (zP r) (zQ a (gZ (cX c g d a)) h) v k;exact⟨_,bn,dh o z,λe j=>⟨(i e j).1,dh (i e j).2 z⟩,λ_=>l.Vj (zP r) (zQ a (gZ (cX c g d a)) h) v k⟩
  have p:∃w,q2 ((j5 a (jR (gZ (cX c g d a))),()),h,())=Y (([],()),w,()):=by
   rw[Jr (λm q=>by have:=HH a (jR (gZ (cX c g d a))) m q;omega)];rw[aw (λs=>?_)]
   ·grind
   grind [zO,mE]
  obtain⟨w,p⟩:=p;refine(HG (G:=[]) (n:=0) rfl Fi (c8 _) q (Jh (y f) u f) x p).mono ?_;rintro _ ⟨C,H,F,D,I,k,l,rfl⟩;obtain⟨o,i⟩:=l.small bn Fi (c8 _) k;refine⟨_,bn,dh o (c8 _),λe j=>⟨(i e j).1,dh (i e j).2 (c8 _)⟩,λs=>absurd (QF s).2.2 r⟩
 obtain⟨w,p⟩:=abr h;refine(HG (G:=[]) (n:=0) rfl Fi (c8 _) q (abp u f) abn p).mono ?_;rintro _ ⟨C,H,F,D,I,k,l,rfl⟩;obtain⟨o,i⟩:=l.small bn Fi (c8 _) k;exact⟨_,bn,dh o (c8 _),λe j=>⟨(i e j).1,dh (i e j).2 (c8 _)⟩,λs=>absurd (QF s).1 f⟩
section
def vW (a:dd):Prop:=a.1.length<100000/\a.2.1.length<100000/\a.2.2.1.length<100000/\a.2.2.2.1.length<100000/\a.2.2.2.2.1.length<100000/\a.2.2.2.2.2.1.length<100000
theorem XD:vW nI:=by grind [vW,nI]
theorem UZ {n:X} (q:n<=12) (o:ahc) (i:(h.flatMap a7.cD).Perm (bH n)) (e:∀c∈h,tN (bH n) c) (del:Z):vW (ly o h del):=by
 obtain⟨r,s,t⟩:=At e;have m:(h.flatMap a7.cD).length=n:=(by rw[i.length_eq,lR]);have p:∀b∈h.flatMap cw,b.1.length<=100:=λb a=>(by obtain⟨c,g,a⟩:=ajy.1 a;obtain⟨j,_,rfl⟩:=eP.1 a;have:=(e c g).nd.length_le_of_subset (e c g).sub;grind);have k:=Dw (gE λf=>(h.flatMap a7.cD).idxOf f) (cs:=h.flatMap cw) λb a=>(by grind [cj,rF,gE]);have l:=Dw (ip λf=>(h.flatMap a7.cD).idxOf f) (cs:=h.flatMap cw) λb a=>(by grind [cj,rF,ip]);refine⟨?_,?_,?_,?_,?_,?_⟩
 ·show((h.flatMap a7.cD).map _).length<_;grind
 ·show(h.map _).length<_;grind
 ·show(h.flatMap a7.d).length<_;omega
 ·show(ke _ _).length<_;grind [cj,ah8,ke]
 ·show((h.flatMap cw).flatMap _).length<_;omega
 show((h.flatMap cw).flatMap _).length<_;omega
section
variable {n:X} {st B C o:ahc} {l:bm dc}
def U0 (f:∀h i,cL (d h i)) (c:hO j l) (a:j.length=n) (g:n<=12):vW (kF d o l).1:=by
 unfold kF;cases e:hX d l l.length with
 |none=>exact XD
 |some k=>
  obtain⟨m,q⟩:=k;obtain⟨p,b⟩:=q8 f c a (bd _) e;exact UZ g o (b.all c a) b.eL _
theorem Kq (r:mN n st B C) (m:jq n n st B C) (h:gI n n st B C=0) (d:ga o n) (f:hO (l1 n (gZ (cX st B C n)) o) l):uo (((n:Z),(n:Z),st,B,C,()),o,l,())=Y (kF (ig (cX st B C n) o) o l)/\C7 (((n:Z),(n:Z),st,B,C,()),o,l,())=Y (kF (ig (cX st B C n) o) o l)/\vW (kF (ig (cX st B C n) o) o l).1:=by
 classical
 have M:=r.xC;obtain⟨R,H,I⟩:=RS r m h d;have k:=zP (E:=gZ (cX st B C n)) d;have F:=zQ n (gZ (cX st B C n)) o;have w:=VD (E:=gZ (cX st B C n)) (cA M ab) d;have x:=d.1;have J:=(jM.1 h).1;have D:=(jM.1 h).2;have A:∀p:X,p=65536->∀a b,cR p 3222 3072 1 (ig (cX st B C n) o a b):=λp G a b=>(ajB G (Rg (p1 J (Dv D)) _ _)).mono ab ab ab;have q:∀a b,cL (ig (cX st B C n) o a b):=λa b=>gr _;have U:=Dz f;have L:∀j∈l,j.2.2.1.length<=7:=λj u=>(by obtain⟨c,i,rfl⟩:=ahY.1 u;have e:=ai0 f k i;have z:=e.g;rw[bR i] at z;have S:=e.Bc;grind [ah0,gR,hF]);have T:iC (l1 n (gZ (cX st B C n)) o)=0:=qR.2 ⟨aa,F⟩;have K:w6 (l1 n (gZ (cX st B C n)) o) l=0:=(by simp_all [cf,ahe,b9,w6]);have e:=RJ w (l:=l) aa (λj u=>by grind);have v:=RK w (l:=l) aa (λj u=>by grind);rw[K] at e v;refine⟨aaF f k q A aa x I (λa b s t=>acp H s t) e,abm f k q aa x (λa b s t=>abj m h d s t) ?_,U0 q f k aa⟩;unfold GP;refine ah (abu m aa) ?_;have N:(if gI n n st B C≠0 then gI n n st B C else if n≠n then 5 else if ga o n then 0 else 90)=0:=(by grind);rw[N];dsimp only;rw[a1 (by rfl)];refine ah (abo r m h d) (ah v ?_);dsimp only;rw[a1 (by rfl)];refine bP.1 ?_;refine bE (P:=λO=>O=.inl ()) ?_ ?_
 ·refine bS l.length (λc Q=>Q=((c:Z),())) rfl ?_ ?_
  ·rintro c _ i rfl;dsimp only;rw[bg,aY (aH (aa:(c:Z)<(l.length:Z))),bk aa];refine bz (y:=l[c]) (eY i) ?_;have:=L l[c] (b6 i);rw[a1 (aF (show¬ak (l[c]).2.2.1>64 by grind))];grind [bu]
  rintro _ rfl;dsimp only;rw[bg,a1 (aF (aa:¬((l.length:Z)<(l.length:Z))))];grind [bu]
 grind [bu]
def RI (d:n<=5) (c:jq n n st B C) (a:gI n n st B C=0) (e:ga o n) (b:hO (l1 n (gZ (cX st B C n)) o) l):uo (((n:Z),(n:Z),st,B,C,()),o,l,())=Y (kF (ig (cX st B C n) o) o l)/\C7 (((n:Z),(n:Z),st,B,C,()),o,l,())=Y (kF (ig (cX st B C n) o) o l)/\vW (kF (ig (cX st B C n) o) o l).1:=
 Kq (mN.XW d a) c a e b
end
end
def XS (g:e≠0) (a:X):cE (e*2^a)=cE e/\eQ (e*2^a)=eQ e+a:=by
 have f:cN (e*2^a).natAbs=cN e.natAbs+a:=(by rw[iZ,E8 aa]);constructor
 ·have b:=oq (e*2^a);have c:=oq e;rw[f,xM,<-jV] at b;have d:=(alj (Jf a)).1 b;exact(alj (Jf (cN e.natAbs))).1 (d.trans c.symm)
 unfold eQ;omega
def UJ (a:e≠0):eQ e+aL (cE e).natAbs=(aL e.natAbs:Z)-65536:=by have b:=IH a;have c:=rI (n:=e.natAbs) aa;unfold eQ;omega
theorem ab6 (l:eJ e) (g:a8 e≠2047) (f:gx e≠0) {j:Z} (h:a2 e=Y j):m5 j 0=e:=by
 rw[l5 g] at h;obtain rfl:=gD h;have t:=Dn g;have v:=sG e;have ao:=w5 e;have o:gx e*2^(h3 e+65536).toNat≠0:=akm f (Jf _);obtain⟨i,p⟩:=XS f (h3 e+65536).toNat;have k:gx e<0↔9223372036854775808<=e:=(by unfold gx at f|-;split<;>split<;>simp_all<;>omega);have c:((gx e).natAbs:Z)=if a8 e=0 then fb e else fb e+4503599627370496:=by unfold gx;split<;>split<;>omega
 have m:br (gx e*2^(h3 e+65536).toNat<0)=br (9223372036854775808<=e):=(by rw[cu,<-u4,i,u4,k]);have ax:=UJ f;have q:(cE (gx e)).natAbs*2^cN (gx e).natAbs=(gx e).natAbs:=(by have:=b3 Int.natAbs (oq (gx e));rwa[iZ] at this);have w:eQ (gx e)=(cN (gx e).natAbs:Z)-65536:=rfl;have d:e=a8 e*4503599627370496+fb e+(if 9223372036854775808<=e then 9223372036854775808 else 0):=(by obtain⟨r,s⟩:=l;unfold a8 fb;split<;>omega);have x:aL (gx e).natAbs<=53:=Iu e;have n:c7 (cE (gx e)).natAbs (eQ (gx e)+((h3 e+65536).toNat:Z))=h3 e:=by
  unfold c7;by_cases b:a8 e=0
  ·have:h3 e=-1074:=(by unfold h3;rw[au b]);omega
  have:aL (gx e).natAbs=53:=(by rw[aw b] at c;have:=qQ.2 (aa:2^52<=(gx e).natAbs);omega);omega
 unfold m5;rw[aw o,m,i,p];unfold k6;rw[n,au aa,(aa:(eQ (gx e)+((h3 e+65536).toNat:Z)-h3 e).toNat=cN (gx e).natAbs),q];unfold kl i6;by_cases b:a8 e=0
 ·rw[au b] at c;rw[b] at d;rw[au aa,c];by_cases a:9223372036854775808<=e
  ·rw[au a] at d;rw[aH a,au bn];omega
  rw[aw a] at d;rw[aF a,aw ab];omega
 rw[aw b] at c;have u:h3 e=a8 e-1075:=(by unfold h3;rw[aw b]);rw[aw aa,aw aa,aw aa,c];by_cases a:9223372036854775808<=e
 ·rw[au a] at d;rw[aH a,au bn];omega
 rw[aw a] at d;rw[aF a,aw ab];omega
def PW (f:eJ e) (a:a8 e≠2047):a8 (iu (a2 e) 0)≠2047/\a2 (iu (a2 e) 0)=a2 e:=by
 by_cases c:gx e=0
 ·have:a2 e=Y 0:=(by rw[l5 a,c,oI]);rw[this];exact⟨ab,by rw[show iu (Y 0) 0=0 from rfl];exact u5⟩
 have b:=l5 a;have d:=ab6 f a c b;rw[b];show a8 (m5 _ 0)≠2047/\a2 (m5 _ 0)=_;rw[d];exact⟨a,b⟩
section
structure tz (A:X->X->ag6) (x:aR):Prop where
 off:∀i∈x.rows,∀j∈x.rows,i≠j->x.s i j=Y 0
 G9:∀i∈x.rows.take x.full,x.s i i=A i i
 Qd:∀i∈x.rows.drop x.full,x.s i i=Y 0
def De (A:X->X->ag6) (a:a7):Prop:=(∃b,a.cD=[b]/\a.d=[iu (A b b) 0])/\∀c∈a.l,∀e∈a.rows,c e=0
def KQ {a:ag6} (c:cL a) (d:a≠bo):cH a (Y 0)=a:=by
 cases a with
 |none=>exact absurd rfl d
 |some b=>
  show mW (b+0)=Y b;rw[ajj];unfold mW;rw[au (c b bn)]
section
variable {A:X->X->ag6} {x:aR}
def M2 {f:X->Z} {e:X}:∀{c:ahb} {b:Z×ag7},(∀i∈c,i≠e->f i=0)->b.1=0->(e3 f e c b).1=0
 |[],_,_,a=>a
 |i::c,b,a,d=>by
  rw[e3];refine M2 (λj h=>a j (g6 _ h)) ?_;split
  ·exact d
  rename_i g;split
  ·exact a i ac g
  exact d
def tz.ba (c:tz A x) {a b:X} (d:a∈x.rows) (f:b∈x.rows) (e:a≠b):x.ba a b=0:=by unfold aR.ba;rw[c.off a d b f e];rfl
theorem tz.run (N:∀a∈x.rows.take x.full,a8 (iu (A a a) 0)≠2047) (O:∀a∈x.rows,∀d∈x.rows,x.s a d≠bo) (C:kt x) (f:tz A x):∀{q:X},x.full<q->∃w u,ahz q x=Y (w,u)/\w.full=0/\tz A w/\u.flatMap a7.cD=x.rows.take x.full/\∀v∈u,De A v:=by
 intro q
 induction q generalizing x with
 |zero=>intro V;omega
 |succ q a4=>
  intro V;rw[ahz];unfold alv;have z:=C.full;cases h:x.rows with
  |nil=>
   have P:x.full=0:=(by rw[h] at z;simpa using z);refine⟨x,[],?_,P,f,by rw[alo];rfl,λv l=>by cases l⟩;rw[alo];rfl
  |cons b j=>
   cases o:x.full with
   |zero=>
    refine⟨x,[],bn,o,f,bn,λv l=>by cases l⟩
   |succ D=>
    have p:b∈x.rows:=(by rw[h];simp);have K:b∈x.rows.take x.full:=(by rw[h,o];simp);have J:=C.nd;rw[h] at J;have av:=(jZ.1 J).1;have e:∀a∈j,a∈x.rows/\a≠b:=λa c=>⟨by rw[h];exact g6 _ c,λm=>av (m▸c)⟩;have y:x.fin b:=λa c=>by
     by_cases m:a=b
     ·subst m;unfold aR.ba;rw[f.G9 a K];exact N a K
     rw[f.ba c p m];decide
    have ad:(x.fc b).1=0:=(by refine M2 (λa c an=>?_) rfl;show((a2 (x.ba a b)).getD 0).natAbs=(0:Z);rw[f.ba c p an,u5];rfl);have U:x.gF ((b::j).take (D+1))=Y [b]:=(by rw[List.take_succ_cons,ajz,cf (ahe y),b9 (.inl ad)]);rw[U];dsimp only;have H:x.rows.filter (λa=>br (a∉[b]))=j:=(by rw[h,List.filter_cons_of_neg ac];exact ain.2 λa c=>ahg (by simpa using(e a c).2));have B:∀a∈j,(if jy (x.ba b b)=0 then 0 else fV (x.s a b) (a2 (x.ba b b)) 0)=0:=λa c=>by
     obtain⟨i1,a3⟩:=e a c;by_cases F:jy (x.ba b b)=0
     ·rw[au F]
     have L:=mt (Rv (y b p)).1 F;rw[aw F,f.off a i1 b p a3];rw[l5 (y b p)] at L|-;show(if _=0 then _ else if(0:Z)=0 then(0:Z) else _)=0;rw[aw (λm=>L (by rw[m])),au bn]
    have ap:(x.eL [b]).fin:=λE G a c=>(by have c:a∈j:=H▸c;obtain rfl:=gj.1 (show E∈[_] from G);show a8 (if jy (x.ba b b)=0 then 0 else fV (x.s a b) (a2 (x.ba b b)) 0)≠2047;rw[B a c];decide);rw[au ap];have r:∀a∈j,∀i∈j,(x.elim [b]).s a i=x.s a i:=λa c i I=>(by show cH (x.s a i) (c4 (hH (if jy (x.ba b b)=0 then 0 else fV (x.s a b) (a2 (x.ba b b)) 0) (x.ba b b) (if jy (x.ba b b)=0 then 0 else fV (x.s i b) (a2 (x.ba b b)) 0)))=_;rw[B a c,B i I];have:hH 0 (x.ba b b) 0=Y 0:=(by unfold hH;rw[u5,l5 (y b p),Og,Og]);rw[this];exact KQ (C.okd a (e a c).1 i (e i I).1) (O a (e a c).1 i (e i I).1));have k:(x.elim [b]).rows=j:=H;have n:(x.elim [b]).full=D:=(by show x.full-1=D;omega);have a0:D<=j.length:=(by rw[h,o] at z;simpa using z);obtain⟨w,u,Q,R,S,M,T⟩:=a4 (x:=x.elim [b]) (by
     rw[k,n];exactλa c=>N a (by rw[h,o,Ba];exact g6 _ c)) (by
     rw[k];intro a c d g;rw[r a c d g];exact O a (e a c).1 d (e d g).1)
     ⟨λa c d g=>by
      rw[k] at c g;rw[r a c d g];exact C.okd a (e a c).1 d (e d g).1,by rw[k];exact(jZ.1 J).2,by rw[k,n];exact a0⟩
     ⟨λa c d g am=>by
      rw[k] at c g;rw[r a c d g];exact f.off a (e a c).1 d (e d g).1 am,λa c=>by
      rw[k,n] at c;have t:=rY c;rw[r a t a t];exact f.G9 a (by rw[h,o,Ba];exact g6 _ c),λa c=>by
      rw[k,n] at c;have t:=List.mem_of_mem_drop c;rw[r a t a t];exact f.Qd a (by rw[h,o,List.drop_succ_cons];exact c)⟩ (by rw[n];omega)
    rw[k,n] at M;refine⟨w,x.eL [b]::u,by rw[Q];rfl,R,S,?_,λv l=>?_⟩
    ·rw[ajA,M,Ba];rfl
    rcases fR.1 l with rfl|l
    ·refine⟨⟨b,bn,?_⟩,λE G a c=>?_⟩
     ·show[x.ba b b]=_;unfold aR.ba;rw[f.G9 b K]
     have c:a∈j:=H▸c;obtain rfl:=gj.1 (show E∈[_] from G);exact B a c
    exact T v l
end
end
def Pv (e:X->aR):∀(f:ahb) (a:aR),(∀c∈f,∀b∈(e c).rows,∀d∈(e c).rows,(e c).s b d=Y 0)->(∀b d,cL (a.s b d)/\a.s b d≠bo)->(f.foldl (λa c=>a.plus (e c)) a).s=a.s
 |[],_,_,_=>rfl
 |c::f,a,j,g=>by
  have h:(a.plus (e c)).s=a.s:=by
   funext b d;show(if _ then _ else _)=_;split
   ·rename_i i;rw[j c ac b i.1 d i.2];exact KQ (g b d).1 (g b d).2
   rfl
  rw[yk,Pv e f _ (λk l=>j k (g6 _ l)) (by rw[h];exact g),h]
def U2 {e:bm dc} {A:X->X->ag6} (x:∀d g,cL (A d g)) (G:∀d g,A d g≠bo) (H:hO j e) (E:j.length=a) (ad:∀d g,d<a->g<a->d≠g->A d g=Y 0) (P:∀d,d<a->a8 (iu (A d d) 0)≠2047):∀c,c<=e.length->∃f o,hX A e c=Y (f,o)/\(∀b,b<c->(f.getD b fF).full=0/\tz A (f.getD b fF))/\o.flatMap a7.cD=bH (be e c)/\∀i∈o,De A i:=by
 intro c
 induction c with
 |zero=>exactλ_=>⟨[],[],bn,λb p=>absurd p (ajt _),bn,λi z=>by cases z⟩
 |succ c am=>
  intro ce;obtain⟨f,o,D,p,S,z⟩:=am aa;obtain⟨L,F⟩:=q8 x H E aa D;have q:=ai0 H E (aa:c<e.length);have U:=F.tU x q;have u:=wh A (λb=>f.getD b fF) c (l:=e);have y:=λ{d:X} (K:d∈(gG A e (λb=>f.getD b fF) c).rows)=>F.wg A q K;have R:=q.own;have M:jh e (λb=>f.getD b fF) c=ahf (be e c) (fU e c):=(by unfold jh;rw[List.flatMap_eq_nil_iff.2 λb r=>by rw[(p b (uX.1 r).1).1,ajo],iL]);have v:(gG A e (λb=>f.getD b fF) c).s=hy A e c:=by
   refine Pv _ _ (jL A e (λb=>f.getD b fF) c) (λb r d h g t=>?_) λd g=>?_
   ·obtain⟨J,B⟩:=p b (uX.1 r).1;by_cases C:d=g
    ·subst C;exact B.Qd d (by rw[J,lj];exact h)
    exact B.off d h g t C
   show cL (if _ then _ else _)/\(if _ then _ else _)≠bo;split
   ·exact⟨x d g,G d g⟩
   exact⟨Al,ac⟩
  have I:(gG A e (λb=>f.getD b fF) c).rows.take (gG A e (λb=>f.getD b fF) c).full=ahf (be e c) (fU e c):=(by rw[u.1,u.2,List.take_left,M]);have N:(gG A e (λb=>f.getD b fF) c).rows.drop (gG A e (λb=>f.getD b fF) c).full=ko e c:=(by rw[u.1,u.2,List.drop_left]);have V:hX A e (c+1)=(ahz ((gG A e (λb=>f.getD b fF) c).full+1) (gG A e (λb=>f.getD b fF) c)).map λi=>(f++[i.1],o++i.2):=(by rw[hX,D];rfl);generalize gG A e (λb=>f.getD b fF) c=bx at*;have O:tz A bx:=by
   refine⟨λd h g t Q=>?_,λd h=>?_,λd h=>?_⟩
   ·rw[v];unfold hy;split
    ·exact ad d g (y h) (y t) Q
    rfl
   ·rw[v];rw[I,List.mem_range'_1] at h;unfold hy;rw[au aa]
   rw[v];rw[N] at h;obtain⟨an,ap,av,ci⟩:=xz.1 h;have:=q.EE an ap av;unfold hy;rw[aw aa]
  obtain⟨w,a0,a3,a4,bl,aE,bs⟩:=O.run (λd h=>by
   have:=y (rY h);exact P d this) (λd h g t=>by
   rw[v];unfold hy;split
   ·exact G d g
   simp) U (r1 _)
  refine⟨f++[w],o++a0,?_,λb r=>?_,?_,λi T=>?_⟩
  ·rw[V,a3];rfl
  ·rcases cS b c with k|k
   ·rw[show(f++[w]).getD b fF=f.getD b fF by rw[mi,mi,qy aa]];exact p b k
   obtain rfl:b=c:=aa;rw[show(f++[w]).getD b fF=w by rw[mi,pC aa,L];simp];exact⟨a4,bl⟩
  ·rw[pB,S,aE,I,A8,A8,<-R];have:=List.range'_append (s:=0) (m:=be e c) (n:=fU e c) (step:=1);simp only[mR,mS] at this;exact this
  rcases h8.1 T with k|k
  ·exact z i k
  exact bs i k
section
section
variable {σ ρ:Type} {f:σ->bv (σ⊕ρ)}
def lA {a s':σ} (b:f a=Y (.inl s')):loop f a=loop f s':=by
 conv=>lhs;rw[DZ]
 rw[b]
def nG {b:σ} {a:ρ} (c:f b=Y (.inr a)):loop f b=Y a:=by rw[DZ,c]
end
def lw:dd:=([0,1],([2],([0,4607182418800017408,0],([0,0,0],([],([],(0,())))))))
def EF {g:Type} {c:bm n} {v:n} (a:al c e=Y v) (b:n->bv g):rd c e b=b v:=by
 unfold al at a;split at a
 ·rename_i d;have f:=(hJ.1 a).1;unfold rd bj;rw[au ⟨d,f⟩,aC,gn a,aC]
 cases a
def UF:Cj ([0,1],())=Y (bp,()):=by unfold Cj;dsimp only;refine ah (y:=2) (by kernel_rfl) (ah (y:=.inl ()) ?_ bn);exact(lA (s':=(1,[bp,bq],())) (by kernel_rfl)).trans ((lA (s':=(2,[bp,bp],())) (by kernel_rfl)).trans (nG (by kernel_rfl)))
def UN:Ck (lw,())=Y ([0],bp,()):=by unfold Ck;dsimp only;refine ah (y:=.inl (2,3,[0],())) ?_ (by kernel_rfl);exact(lA (s':=(2,3,1,[0],())) (by kernel_rfl)).trans (nG (by kernel_rfl))
def UL:Cb (lw,[0],())=Y (bp,()):=by
 unfold Cb;dsimp only;refine ah (y:=.inl ()) (by kernel_rfl) ?_;dsimp only;refine ah (y:=.inl ()) ?_ bn;refine(lA (s':=(1,())) ?_).trans (nG (by kernel_rfl));rw[aY (by kernel_rfl)];refine ah (y:=0) rfl (ah (y:=2) rfl (ah (y:=.inl ()) ?_ (by kernel_rfl)));have i:∀a:Z,a=0\/a=1->(bB (α:=bt⊕pK) (
 bB (α:=bt⊕(bt⊕pK)) (
 (al lw.2.2.2.1 a).bind λp=>
 (al lw.2.2.2.1 (aP a)).bind λl=>
  bif br (p>l)==bq then(al lw.2.2.2.1 (aP a)).bind λm=>
  bif br (m>ak lw.2.2.2.2.1) then
 Y (.inr (.inr (.inr (.inr (.inr (.inr (bq,()))))))) else
 Y (.inl ()) else Y (.inr (.inr (.inr (.inr (.inr (.inr (bq,())))))))) λb=>match b with
 |.inl _=>(
 (al lw.2.2.2.1 a).bind λn=>
 (al lw.2.2.2.1 (aP a)).bind λo=>
 ((gy n).bind λg=>(gy o).bind λh=>(hb g h (lw.2.2.2.2.1).length).map λ_=>(g,h)).bind λd=>
 (loop (σ:=v9) (ρ:=(bt⊕(bt⊕pK))) (λ(j,e,_)=>
  bif br (e<ak (((lw.2.2.2.2.1).take d.2).drop d.1)) then(
 bB (α:=eW⊕(v9⊕(bt⊕(bt⊕pK)))) (
 (al (((lw.2.2.2.2.1).take d.2).drop d.1) e).bind λf=>
 bB (α:=bt⊕(eW⊕(v9⊕(bt⊕(bt⊕pK))))) (bif br (f<=j)==bq then bif br (f>=ak lw.1) then
 Y (.inr (.inr (.inr (.inr (.inr (.inr (.inr (.inr (.inr (bq,())))))))))) else
 Y (.inl ()) else Y (.inr (.inr (.inr (.inr (.inr (.inr (.inr (.inr (.inr (bq,()))))))))))) λb=>match b with
 |.inl _=>(
 Y (.inl (f,())))
 |.inr c=>Y c) λb=>match b with
 |.inl (k,_)=>(
 Y (.inl (k,aP e,())))
 |.inr c=>Y c) else
 Y (.inr (.inl ()))) (ay (ay (0+2)-1),0,())).bind λb=>match b with
 |.inl _=>(
 Y (.inl ()))
 |.inr c=>Y c)
 |.inr c=>Y c) λb=>match b with
 |.inl _=>(
 Y (.inl (aP a,())))
 |.inr c=>Y c)=Y (.inl (aP a,())):=by
  rintro a (rfl|rfl)
  ·refine ah (y:=.inl ()) (ah (y:=.inl ()) (by kernel_rfl) ?_) rfl;dsimp only;refine ah (y:=0) rfl (ah (y:=0) (by kernel_rfl) (ah (y:=(0,0)) (by kernel_rfl) (ah (y:=.inl ()) (nG (by kernel_rfl)) rfl)))
  refine ah (y:=.inl ()) (ah (y:=.inl ()) (by kernel_rfl) ?_) rfl;dsimp only;refine ah (y:=0) (by kernel_rfl) (ah (y:=0) (by kernel_rfl) (ah (y:=(0,0)) (by kernel_rfl) (ah (y:=.inl ()) (nG (by kernel_rfl)) rfl)))
 refine(lA (s':=(1,())) ?_).trans ((lA (s':=(2,())) ?_).trans (nG (by kernel_rfl)))
 ·rw[aY (by kernel_rfl)];exact i 0 (.inl bn)
 rw[aY (by kernel_rfl)];exact i 1 (.inr bn)
def MF:nz (0,())=Y (bp,()):=by rw[zU (f:=0) ⟨ab,ab⟩];rfl
def U7:nz (4607182418800017408,())=Y (bp,()):=by rw[zU (f:=4607182418800017408) ⟨ab,ab⟩];rfl
def X0:j2 (4607182418800017408,())=Y (az (a2 4607182418800017408),()):=qc ⟨ab,ab⟩
theorem Ah:a2 0=Y 0:=by decide
def Mv:∃g:Z,kU [0,4607182418800017408,0]=Y g/\g<0:=by obtain⟨b,a⟩:∃b:X,b=65536:=⟨_,bn⟩;have e:a8 4607182418800017408≠2047:=ab;obtain⟨n,p,q,h,ao,c,i,d⟩:=cR.mul a (ajB a e) (ajB a e) ab ab ab;have m:a2 4607182418800017408=Y (1*2^b):=(by rw[a];exact v1);rw[m] at ao c;have ao:=gD ao;have c:=gD c;have l:(0:Z)<2^b:=mg ab;rw[<-ao,<-c] at d;simp only[ajk] at d;have o:h=2^b:=Int.eq_of_mul_eq_mul_right (Int.ne_of_gt l) d;have j:=(cR.add a ab (cR.mul a (ajB a (f:=0) ab) (ajB a (f:=0) ab) ab ab ab).1 n.neg ab).2;refine⟨_,j,?_⟩;have k:cT (a2 0) (a2 0)=Y 0:=(by rw[Ah];rfl);rw[k,i];show 0+-h<0;omega
def Mw:y4 (lw,())=Y ([[az (a2 0),az (a2 4607182418800017408),az (a2 0)]],()):=by
 have c:j2 (0,())=Y (az (a2 0),()):=qc ⟨ab,ab⟩;unfold y4;dsimp only;generalize f:az (a2 0)=a at*;generalize d:az (a2 4607182418800017408)=b;have e:j2 (4607182418800017408,())=Y (b,()):=(by rw[<-d];exact X0);refine ah (y:=([[a,b,a]],())) ?_ bn;refine(lA (s':=(3,1,[[a,b,a]],())) ?_).trans (nG (by kernel_rfl));dsimp only;rw[aY (by kernel_rfl)];refine ah (y:=2) rfl (ah (y:=(3,[],[a,b,a],())) ?_ (by kernel_rfl));refine(lA (s':=(1,1,[],[a],())) ?_).trans ((lA (s':=(2,2,[],[a,b],())) ?_).trans ((lA (s':=(3,3,[],[a,b,a],())) ?_).trans (nG (by kernel_rfl))))
 ·dsimp only;rw[aY (by kernel_rfl)];exact ah (y:=0) rfl (ah c (by kernel_rfl))
 ·dsimp only;rw[aY (by kernel_rfl)];exact ah (y:=4607182418800017408) rfl (ah e (by kernel_rfl))
 dsimp only;rw[aY (by kernel_rfl)];exact ah (y:=0) rfl (ah c (by kernel_rfl))
def UK:B7 (lw,())=Y (0,()):=by
 obtain⟨f,j,h⟩:=Mv;have g:=G6 (a:=0) (b:=4607182418800017408) (d:=0);have i:mX (az (kU [0,4607182418800017408,0]),())=Y (-1,()):=(by rw[o4 (show cL (kU [0,4607182418800017408,0]) from kA _ _),j];show Y (gA f,())=_;unfold gA;rw[cf aa,b9 h]);unfold B7;dsimp only;refine ah (y:=.inl ()) ?_ ?_
 ·rw[a1 (by kernel_rfl)];refine ah UF ?_;dsimp only
  kernel_rfl
 dsimp only;refine ah UN ?_;dsimp only;refine ah (y:=.inl ()) ?_ ?_
 ·rw[aY (by kernel_rfl),aY (by kernel_rfl)];refine ah UL ?_;rfl
 dsimp only;refine ah (y:=.inl ()) ?_ ?_
 ·refine(lA (s':=(1,[[],[0,4607182418800017408,0]],())) ?_).trans ((lA (s':=(2,[[],[0,4607182418800017408,0]],())) ?_).trans (nG (by kernel_rfl)))
  ·dsimp only;rw[aY (by kernel_rfl),EF (v:=[]) rfl];exact ah (y:=.inl ([[],[0,4607182418800017408,0]],())) (nG (by kernel_rfl)) rfl
  dsimp only;rw[aY (by kernel_rfl),EF (v:=[0,4607182418800017408,0]) rfl];refine ah (y:=.inl ([[],[0,4607182418800017408,0]],())) ?_ bn;refine(lA (s':=(1,[[],[0,4607182418800017408,0]],())) ?_).trans ((lA (s':=(2,[[],[0,4607182418800017408,0]],())) ?_).trans ((lA (s':=(3,[[],[0,4607182418800017408,0]],())) ?_).trans (nG (by kernel_rfl))))
  ·dsimp only;rw[aY (by kernel_rfl)];exact ah (y:=0) rfl (ah MF (by kernel_rfl))
  ·dsimp only;rw[aY (by kernel_rfl)];exact ah (y:=4607182418800017408) rfl (ah U7 (by kernel_rfl))
  dsimp only;rw[aY (by kernel_rfl)];exact ah (y:=0) rfl (ah MF (by kernel_rfl))
 dsimp only;refine ah Mw ?_;dsimp only;generalize az (a2 0)=c at*;generalize az (a2 4607182418800017408)=e at*;generalize az (kU [0,4607182418800017408,0])=k at*;refine ah (y:=.inl ()) ?_ bn;refine(lA (s':=(1,[[c,e,c]],())) ?_).trans (nG (by kernel_rfl));dsimp only;rw[aY (by kernel_rfl)];refine ah (y:=.inl ([[c,e,c]],())) ?_ (by kernel_rfl);rw[EF (v:=[c,e,c]) rfl,aY (by kernel_rfl)];refine ah g (ah i ?_)
 kernel_rfl
def UQ:B9 (lw,())=Y ((1,(0,(1,()))),0,()):=by
 obtain⟨f,k,h⟩:=Mv;have g:=G6 (a:=0) (b:=4607182418800017408) (d:=0);have j:mX (az (kU [0,4607182418800017408,0]),())=Y (-1,()):=(by rw[o4 (show cL (kU [0,4607182418800017408,0]) from kA _ _),k];show Y (gA f,())=_;unfold gA;rw[cf aa,b9 h]);have i:mX (az (a2 0),())=Y (0,()):=(by rw[o4 (gr _),Ah];rfl);unfold B9;dsimp only;refine ah UK ?_;dsimp only;rw[a1 (by kernel_rfl)];refine ah Mw ?_;dsimp only;generalize az (a2 0)=c at*;generalize az (a2 4607182418800017408)=e at*;generalize az (kU [0,4607182418800017408,0])=l at*;refine ah (y:=((0,(0,(0,()))),(1,(0,(1,()))),())) ?_ bn;refine(lA (s':=(1,(0,(0,(0,()))),(1,(0,(1,()))),[[c,e,c]],())) ?_).trans (nG (by kernel_rfl));dsimp only;rw[aY (by kernel_rfl)];refine ah (y:=((0,(0,(0,()))),(1,(0,(1,()))),[[c,e,c]],())) ?_ (by kernel_rfl);rw[EF (v:=[c,e,c]) rfl];refine ah (y:=c) rfl (ah i ?_);dsimp only;refine ah (y:=.inr ((0,(0,(0,()))),(1,(0,(1,()))),[[c,e,c]],())) ?_ bn;rw[aY (by kernel_rfl)];refine ah g (ah j ?_)
 kernel_rfl
end
abbrev nJ:Z:=4607182418800017408
def ada:jq 2 2 [0,1,1] [1] [nJ] where
 hr:=by decide
 hc:=by decide
 hi:=by decide
 hs:=by decide
 hv:=by decide
 hw:=λb a=>by rw[gj.1 a];exact⟨ab,ab⟩
theorem adb:ie 2 2 [0,1,1] [1] [nJ] where
 len:=rfl
 first:=rfl
 mono:=λb a=>by grind
 last:=rfl
 val:=rfl
 rng:=λb e a c d=>by grind
 asc:=λb e a c d=>by grind
theorem ac4:gI 2 2 [0,1,1] [1] [nJ]=0:=by refine jM.2 ⟨adb,λa b=>?_⟩;have:a=0:=(by grind);subst this;decide
def JO:bm cV:=[(1,0,nJ,())]
def QN:cX [0,1,1] [1] [nJ] 2=JO:=rfl
theorem QP:l1 2 (gZ JO) [0,1]=Hq:=by decide
def vu:bm dc:=[(0,(2,([0,1],((-1:Z),()))))]
theorem ac8:hO Hq vu:=by
 refine⟨⟨λa b=>?_,bn⟩,λa b=>?_,λa b=>?_,λh c i l=>?_⟩
 ·have b:a<1:=b;obtain rfl:a=0:=aa;exact⟨_,bn,bn,ab,ab⟩
 ·have j:a<1:=b;obtain rfl:a=0:=aa;refine⟨(by decide:2<=2),λc _ g d=>?_⟩;have g:c<2:=g;have:c=0\/c=1:=aa;rcases this with rfl|rfl
  ·exact⟨λ_=>rfl,λd=>absurd (show 2<=0 from d) ab⟩
  exact⟨λ_=>rfl,λd=>absurd (show 2<=1 from d) ab⟩
 ·have j:a<1:=b;obtain rfl:a=0:=aa;exact .inl ⟨bn,bn⟩
 have k:fj Hq:=(by grind [zQ,QP]);obtain⟨e,f⟩:=i.lt k;have e:h<2:=e;have f:c<2:=f;obtain rfl:h=0:=aa;obtain rfl:c=1:=aa;decide
abbrev EZ:X->X->ag6:=ig JO [0,1]
def PY:iu (a2 nJ) 0=nJ:=by rw[v1,Dp (a:=0) ab ab];decide
def PZ:iu (a2 0) 0=0:=by rw[Ah];rfl
def iH:aR:=gG EZ vu (λa=>([]:bm aR).getD a fF) 0
theorem vv:iH.rows=[0,1]:=by decide
theorem JP:iH.full=2:=by decide
theorem JQ:iH.ba 0 0=0:=PZ
def QQ:iH.ba 0 1=nJ:=PY
def JR:iH.ba 1 0=nJ:=PY
theorem JS:iH.ba 1 1=0:=PZ
def QO (a:X) (c:a=0\/a=1):iH.fin a:=by
 unfold aR.fin;rw[vv];intro d b;simp only[fR,List.not_mem_nil,or_false] at b;rcases c with rfl|rfl<;>rcases b with rfl|rfl
 ·rw[JQ];decide
 ·rw[JR];decide
 ·rw[QQ];decide
 rw[JS];decide
theorem ac5:iH.choose=Y [0,1]:=by
 obtain⟨a,g⟩:∃a:X,a=65536:=⟨_,bn⟩;have c:a2 nJ=Y (1*2^a):=(by rw[g];exact v1);have b:(0:Z)<2^a:=mg ab;have i:iH.av 0 0=0:=(by grind [JQ,Ah,aR.av]);have j:iH.av 1 1=0:=(by grind [JS,Ah,aR.av]);have e:iH.av 1 0=2^a:=(by unfold aR.av;rw[JR,c,r2,ajk];exact amQ (fr b));have d:iH.av 0 1=2^a:=(by unfold aR.av;rw[QQ,c,r2,ajk];exact amQ (fr b));have f:iH.fc 0=(2^a,Y 1):=(by unfold aR.fc;rw[vv];show(iH.av 1 0,Y 1)=_;rw[e]);have k:iH.fc 1=(2^a,Y 0):=(by unfold aR.fc;rw[vv];show(iH.av 0 1,Y 0)=_;rw[d]);unfold alv;have h:iH.rows.take iH.full=[0,1]:=(by rw[vv,JP];rfl);rw[h,ajz,aw (ahe (QO 0 (.inl bn))),aw (by
  grind)]
 rw[f];dsimp only;rw[cf (ahe (by grind)),cf (ahe (QO 1 (.inr bn))),cf (by
  grind),aw (by
  grind)]
def Ug (b:aR) (a:ahb):(b.elim a).rows=b.rows.filter λc=>br (c∉a):=rfl
theorem Ue (b:aR) (a:ahb):(b.elim a).full=b.full-a.length:=rfl
theorem PC (b:aR) (a:ahb):(b.eL a).rows=b.rows.filter λc=>br (c∉a):=rfl
def aba (c:aR) (a b:X):(c.eL [a,b]).d=[c.ba a a,c.ba b a,c.ba b b]:=rfl
def abb (e:aR) (c d:X):∃a b,(e.eL [c,d]).l=[a,b]:=⟨_,_,bn⟩
def aa9 (b:aR) (a:ahb):(b.eL a).cD=a:=rfl
theorem ac9:ahz 3 iH=Y (iH.elim [0,1],[iH.eL [0,1]]):=by
 have b:([0,1]:ahb).filter (λa=>br (a∉[0,1]))=[]:=ab;have e:(iH.elim [0,1]).rows=[]:=(by rw[Ug,vv,b]);rw[xT ac5 ab,au (by
  intro c _ a d;grind [PC,vv])]
 grind [ER,choose,alv,ajz]
theorem UY {a:a7} {b c:X->Z} (n:a.rows=[]) (o:a.d=[0,nJ,0]) (p:a.l=[b,c]) (q:a.cD=[0,1]):ly [0,1] [a] 0=lw:=by unfold ly;have g:[a].flatMap cw=[([],b),([],c)]:=(by grind [cw]);have f:[a].flatMap a7.cD=[0,1]:=(by grind);have h:[a].flatMap (·.d)=[0,nJ,0]:=(by grind);have i:[a].map (λa=>(a.cD.length:Z))=[2]:=(by grind);rw[g,f,h,i];generalize(λj=>([0,1]:ahb).idxOf j)=e;have k:∀m:X->Z,mI e []=[]:=λ_=>rfl;rfl
theorem ac6:hX EZ vu 1=Y ([iH.elim [0,1]],[iH.eL [0,1]]):=by have b:gG EZ vu (λa=>([]:bm aR).getD a fF) 0=iH:=rfl;grind [JP,ac9,hX]
theorem U1 {o:ahc} {b:bm aR} (e:l.length=a) (c:hX d l a=Y (b,h)):kF d o l=(ly o h (jN b:Z),0,()):=by grind [kF]
theorem ac7:kF EZ [0,1] vu=(lw,0,()):=by have a:([0,1]:ahb).filter (λd=>br (d∉[0,1]))=[]:=ab;have c:(jN [iH.elim [0,1]]:Z)=0:=(by grind [als,Ue,JP,jN]);obtain⟨e,f,b⟩:=abb iH 0 1;rw[U1 (o:=[0,1]) (show vu.length=1 from rfl) ac6,c,UY (by rw[PC,vv,a]) (by rw[aba,JQ,JR,JS]) b (aa9 _ _)]
def SU:CO ()=Y (bp,()):=by unfold CO;refine ah (y:=((2,(2,([0,1,1],([1],([nJ],()))))),())) rfl ?_;dsimp only;obtain⟨a,_,_⟩:=RI (n:=2) ab ada ac4 UM (l:=vu) (by rw[QN,QP];exact ac8);rw[QN,ac7] at a;refine ah a ?_;dsimp only;refine ah UQ ?_;dsimp only;rw[aY (by rfl),aY (by rfl)];refine ah (Ku _ _ ab) ?_;rfl
section
def io (a:X):ahc:=(bH a).map λb:X=>(b:Z)
def rm (a:X):(io a).length=a:=by unfold io;rw[e8,lR]
def p8 (c:a<b):(io b).getD a 0=(a:Z):=by rw[jv (by rw[rm];exact c)];unfold io;rw[List.getElem_map,amR]
def Nk (a:X):io (a+1)=io a++[(a:Z)]:=by unfold io;rw[iM,iy];rfl
def XN (c:eJ e) (a:Z):ae (wO (e,a,())) λd=>eJ d.1/\a8 d.1≠2047:=by
 by_cases g:pb a 4<3
 ·exact(XO c g).mono λd f=>⟨f.1.1,f.1.2.1⟩
 have i:=z9 a (n:=4) ab;have h:pb a 4=3:=aa;unfold wO;dsimp only;refine bz (Aa a (n:=4) ab ab) ?_;dsimp only;rw[gH,gH,gH,h,a1 (aF ab),a1 (aF ab),aY (aH ab)];refine bz (xQ c) ?_;dsimp only;by_cases b:a8 e=2047
 ·rw[aH b];exact bu.2 ⟨⟨ab,ab⟩,ab⟩
 rw[aF b];exact bu.2 ⟨c,b⟩
def adV (l:g.length<=9223372036854775807) {n:X} (s:n<=1000) (j:Z):ae (CM (g,0,(n:Z),j,())) λd=>d.1.length=n/\∀a∈d.1,eJ a/\a8 a≠2047:=by
 unfold CM;dsimp only;refine bE (P:=λd=>d.1.length=n/\∀a∈d.1,eJ a/\a8 a≠2047) ?_ (by rintro⟨q,_⟩ k;exact bu.2 k);refine bS n (λe p=>∃c,p=((e:Z),c,())/\c.length=e/\∀a∈c,eJ a/\a8 a≠2047) ⟨[],bn,bn,λa b=>by cases b⟩ ?_ ?_
 ·rintro e _ r ⟨c,rfl,h,b⟩;dsimp only;rw[aY (aH (aa:(e:Z)<(n:Z))),bk aa];refine bE (Ke g l _) ?_;rintro⟨t,_⟩ o;refine bE (XN o j) ?_;rintro⟨u,_⟩ i;dsimp only at i|-;rw[eB (by simp;omega),bN];refine bu.2 ⟨_,bn,by simp[h],λa m=>?_⟩;rcases List.mem_append.1 m with f|f
  ·exact b a f
  rw[gj.1 f];exact i
 rintro _ ⟨c,rfl,h,b⟩;dsimp only;rw[a1 (aF (aa:¬((n:Z)<(n:Z))))];exact bu.2 ⟨h,b⟩
section
variable {n:X} {A:ahc}
def G7:∀a,a<=n->cX (io (n+1)) (io n) A a=(bH a).map λb:X=>((b:Z),(b:Z),A.getD b 0,()):=by
 intro a
 induction a with
 |zero=>exactλ_=>rfl
 |succ a c=>
  intro d;rw[cX,c aa,p8 aa,p8 aa,iM,iy];congr 1;rw[(aa:((a+1:X):Z).toNat-((a:X):Z).toNat=0+1),iE,iE,fA,mQ,p8 aa];rfl
def G8 (e:A.length=n):ie n n (io (n+1)) (io n) A:=by
 refine⟨rm _,p8 aa,λd c=>?_,?_,by rw[e,rm],λd f c a b=>?_,λd f c a b=>?_⟩
 ·rw[p8 aa,p8 aa];omega
 ·rw[p8 aa,rm]
 ·rw[p8 aa] at a b;rw[p8 aa];omega
 rw[p8 aa] at a b;omega
def TS (d:A.length=n) (c:∀b∈A,eJ b/\a8 b≠2047):gI n n (io (n+1)) (io n) A=0:=jM.2 ⟨G8 d,λe a=>by
 rw[jv a];exact(c _ (cO a)).2⟩
def TU (d:n<=7) (e:A.length=n) (c:∀a∈A,eJ a/\a8 a≠2047):jq n n (io (n+1)) (io n) A:=
 ⟨aa,aa,by rw[rm];omega,by rw[rm];omega,aa,λa b=>(c a b).1⟩
def L4 (a:n<=7):mN n (io (n+1)) (io n) A:=⟨a,by
 rw[G7 n (bd _)];refine dh (kv _ _) ?_;rw[e8,lR];omega⟩
def TW {a:Z} (c:e≠a):mM (cX (io (n+1)) (io n) A n) e a=0:=by rw[G7 n (cc _)];refine Rh λf b=>?_;obtain⟨d,_,rfl⟩:=ajv.1 b;dsimp only;omega
def TV (c:A.length=n) {i:X} (a:i<n):mM (cX (io (n+1)) (io n) A n) i i=A.getD i 0:=by
 have b:=p0 (G8 c) n (bd _);exact Kc b (x:=((i:Z),(i:Z),A.getD i 0,())) (by
  rw[G7 n (bd _)];exact eP.2 ⟨i,h9.2 a,bn⟩)
def aaR (a:g.Perm (io n)):ga g n:=by
 refine⟨by rw[a.length_eq,rm],λf c=>?_,a.nodup_iff.2 ?_⟩
 ·obtain⟨e,b,rfl⟩:=eP.1 (a.mem_iff.1 c);have:=h9.1 b;omega
 unfold io ajw;rw[oM];exact vR.imp λa d=>a aa
def TT (i:ga g n) (j:a<n) (k:b<n) (h:a≠b):ig (cX (io (n+1)) (io n) A n) g a b=Y 0:=by
 unfold ig;rw[TW,u5];obtain⟨m,_,f⟩:=i;rw[jv aa,jv aa];have l:g[a]≠g[b]:=λd=>h (by
  have e:=h0.1 f;rcases qE a b with c|c|c
  ·exact absurd d (e a b aa aa c)
  ·exact c
  exact absurd d.symm (e b a aa aa c))
 unfold mx l4;split<;>split<;>omega
def L3 (e:A.length=n) (d:ga g n) (j:a<n):ig (cX (io (n+1)) (io n) A n) g a a=a2 (A.getD (g.getD a 0).toNat 0):=by unfold ig;have ao:mx (g.getD a 0) (g.getD a 0)=g.getD a 0:=(by unfold mx;split<;>rfl);have c:l4 (g.getD a 0) (g.getD a 0)=g.getD a 0:=(by unfold l4;split<;>rfl);obtain⟨l,f,h⟩:=d;have b:a<g.length:=aa;have k:=f _ (cO b);rw[ao,c,jv b];have:=TV (n:=n) e (i:=(g[a]).toNat) aa;rw[(aa:(((g[a]).toNat:X):Z)=g[a])] at this;rw[this]
end
end
def L5 {c:X->X->ag6}:∀{a:bm a7},(∀q∈a,De c q)->a.map (λq=>(q.cD.length:Z))=(a.flatMap a7.cD).map (λ_=>1)/\a.flatMap a7.d=(a.flatMap a7.cD).map λb=>iu (c b b) 0
 |[],_=>⟨bn,bn⟩
 |q::a,e=>by obtain⟨g,h⟩:=L5 λj i=>e j (g6 _ i);obtain⟨⟨b,ao,f⟩,_⟩:=e q ac;rw[h7,ajA,ajA,iy,iy,g,h,ao,f];exact⟨bn,bn⟩
def TX (e:X->X) (i:∀a∈h,De d a):∀f∈(h.flatMap cw).flatMap (ip e),f=0:=by intro f c;obtain⟨n,b,c⟩:=ajy.1 c;obtain⟨a,l,b⟩:=ajy.1 b;obtain⟨g,j,rfl⟩:=eP.1 b;obtain⟨m,k,rfl⟩:=eP.1 c;exact(i a l).2 g j m ((QH e a.rows).mem_iff.1 k)
def RO (ad:ahc) (t am:Z) (G:ad.length<=9223372036854775807):GC (ad,t,am,())=Y (bp,()):=by
 unfold GC;refine bP.1 ?_;refine bz (Aa t (n:=8) ab ab) ?_;have dl:=z9 t (n:=8) ab;dsimp only;generalize pb t 8=a at*;refine bE (adV G (aa:a<=1000) am) ?_;rintro⟨e,_⟩ ⟨m,p⟩;dsimp only at m p|-;refine bE (P:=λap=>ap=(((a:Z),(a:Z),io (a+1),io a,e,()),())) ?_ ?_
 ·refine bS a (λc s=>s=((c:Z),((a:Z),(a:Z),io (c+1),io c,e,()),())) rfl ?_ ?_
  ·rintro c _ j rfl;dsimp only;have O:=rm c;have o:=rm (c+1);rw[aY (aH (aa:(c:Z)<(a:Z))),bk aa,eB (by simp[O];omega),bN,eB (by simp[o];omega),bN];refine bu.2 ?_;show _=_;rw[Nk (c+1),Nk c]
  rintro _ rfl;dsimp only;rw[a1 (aF (aa:¬((a:Z)<(a:Z))))];exact bu.2 bn
 rintro _ rfl;dsimp only;refine bE (RT G (aa:a<=12)) ?_;rintro⟨d,_⟩ h;have h:ga d a:=aaR h;dsimp only;have S:=TU (aa:a<=7) m p;have x:=TS m p;refine bE (Vu (b:=7) (aa:a<=7) (cc _) (λ_=>L4 (aa:a<=7)) S G) ?_;rintro _ ⟨B,rfl,_,_,cs⟩;have w:=cs (by unfold EW;rw[cf (ahe x),cf (ahe bn),b9 h]);dsimp only;have F:=zP (E:=gZ (cX (io (a+1)) (io a) e a)) h;obtain⟨L,_,M⟩:=Kq (L4 (aa:a<=7)) S x h w;have R:∀f,f<a->0<=d.getD f 0/\d.getD f 0<(a:Z):=λf u=>(by rw[jv (by have:=h.1;omega)];exact h.2.1 _ (b6 _));have H:∀f,f<a->eJ (e.getD (d.getD f 0).toNat 0)/\a8 (e.getD (d.getD f 0).toNat 0)≠2047:=λf u=>(by have:=R f u;rw[jv (aa:(d.getD f 0).toNat<e.length)];exact p _ (b6 _));obtain⟨J,k,N,o,D,Q⟩:=U2 (A:=ig (cX (io (a+1)) (io a) e a) d) (λl c=>gr _) (λl c=>by
  unfold ig;rw[l5 (Rg (p1 (G8 m) (λC u=>(p C u).2)) _ _)];simp) w F (λl c q j bl=>TT h q j bl) (λl q=>by
  rw[L3 m h q];exact(PW (H l q).1 (H l q).2).1) B.length (bd _)
 have c2:=(q8 (λl c=>gr _) w F (cc _) N).1;have a3:jN J=0:=(by unfold jN;rw[List.sum_eq_zero_iff_forall_eq_nat];intro d1 bx;obtain⟨c1,ce,rfl⟩:=ajv.1 bx;obtain⟨av,x,rfl⟩:=ahY.1 ce;have:=(o av aa).1;rwa[alu,bR x] at this);have a4:kF (ig (cX (io (a+1)) (io a) e a) d) d B=(ly d k 0,0,()):=(by unfold kF;rw[N];show(ly d k ((jN J:X):Z),0,())=_;rw[a3];rfl);rw[a4] at L M;have a0:be B B.length=a:=(by rw[<-F];exact w.1.2);rw[a0] at D;obtain⟨ax,T⟩:=L5 Q;have I:=TX (λf=>(k.flatMap a7.cD).idxOf f) Q;rw[D] at ax T;have cv:(ly d k 0).1=d:=(by show(k.flatMap a7.cD).map (λf=>d.getD f 0)=d;rw[D];refine List.ext_getElem (by rw[cj,ah8,h.1]) λl O o=>?_;rw[List.getElem_map,amR,jv o]);have V:(ly d k 0).2.1=(bH a).map λ_=>1:=ax;have U:(ly d k 0).2.2.1=(bH a).map λf=>iu (ig (cX (io (a+1)) (io a) e a) d f f) 0:=T;have I:∀C∈(ly d k 0).2.2.2.2.2.1,C=0:=I;have aN:(ly d k 0).2.2.2.2.2.2.1=0:=rfl;refine bz L ?_;dsimp only;generalize ly d k 0=g at*;have ci:ak g.2.1=(a:Z):=(by rw[bg,V];simp);have co:ak g.2.2.1=(a:Z):=(by rw[bg,U];simp);refine bE (P:=λr=>r=.inl (((a:Z),(a:Z),io (a+1),io a,e,()),g,())) ?_ ?_
 ·rw[aY (by rfl),aN,aY (by rfl),ci,aY ac,cv];refine bz (by rw[Ku d d (by have:=h.1;omega)]) ?_;dsimp only;rw[aY ac,co,a1 ac];exact bu.2 bn
 rintro _ rfl;dsimp only;refine bE (P:=λr=>r=.inl (((a:Z),(a:Z),io (a+1),io a,e,()),g,())) ?_ ?_
 ·refine bS g.2.2.2.2.2.1.length (λc s=>s=((c:Z),((a:Z),(a:Z),io (a+1),io a,e,()),g,())) rfl ?_ ?_
  ·rintro c _ j rfl;have ds:g.2.2.2.2.2.1.length<100000:=M.2.2.2.2.2;dsimp only;rw[bg,aY (aH (aa:(c:Z)<(g.2.2.2.2.2.1.length:Z))),bk aa];have K:=I _ (b6 j);have an:eJ (0:Z):=⟨ab,ab⟩;refine bz (y:=.inl (((a:Z),(a:Z),io (a+1),io a,e,()),g,())) ?_ (bu.2 bn);refine ah (eY j) ?_;rw[K];refine ah (j9 an) (ah (Jp (gr _)) ?_);dsimp only;rw[u5,aY ab];refine ah (eY j) ?_;rw[K];refine ah (xQ an) ?_;rfl
  rintro _ rfl;dsimp only;rw[bg,a1 (aF (aa:¬((g.2.2.2.2.2.1.length:Z)<(g.2.2.2.2.2.1.length:Z))))];exact bu.2 bn
 rintro _ rfl;dsimp only;refine bE (P:=λr=>r=.inl ()) ?_ ?_
 ·refine bS a (λc s=>s=((c:Z),((a:Z),(a:Z),io (a+1),io a,e,()),g,())) rfl ?_ ?_
  ·rintro c _ j rfl;dsimp only;rw[aY (aH (aa:(c:Z)<(a:Z))),bk aa];refine bz (y:=.inl (((a:Z),(a:Z),io (a+1),io a,e,()),g,())) ?_ (bu.2 bn);have d0:=R c j;have z:=H c j;refine ah (y:=1) (by rw[V,eY (by simpa using j)];simp) ?_;rw[aY (by rfl)];refine ah (y:=iu (ig (cX (io (a+1)) (io a) e a) d c c) 0) (by rw[U,eY (by simpa using j)];simp) ?_;refine ah (j9 (AH _ _)) ?_;dsimp only;refine ah (y:=d.getD c 0) (by rw[hj (by have:=h.1;omega)]) ?_;unfold rd;have ao:bj e.length (d.getD c 0)=Y (d.getD c 0).toNat:=by
    have:=eT (i:=(d.getD c 0).toNat) (n:=e.length) aa;rwa[(aa:(((d.getD c 0).toNat:X):Z)=d.getD c 0)] at this
   rw[ao,bN,gn (v:=e.getD (d.getD c 0).toNat 0) (by rw[jv (aa:(d.getD c 0).toNat<e.length)];exact bR _),bN];refine ah (j9 z.1) ?_;dsimp only;rw[L3 m h j,(PW z.1 z.2).2];refine ah (AA (gr _) (gr _)) (ah (Jp (kA _ _)) ?_);dsimp only;have:vj (cH (a2 (e.getD (d.getD c 0).toNat 0)) (c4 (a2 (e.getD (d.getD c 0).toNat 0))))=0:=(by rw[l5 z.2];show gA ((mW (_+-_)).getD 0)=0;rw[Int.add_right_neg];rfl);rw[this];rfl
  rintro _ rfl;dsimp only;rw[a1 (aF (aa:¬((a:Z)<(a:Z))))];exact bu.2 bn
 rintro _ rfl;dsimp only;exact bz SU (bu.2 bn)
end Go.jm
end
