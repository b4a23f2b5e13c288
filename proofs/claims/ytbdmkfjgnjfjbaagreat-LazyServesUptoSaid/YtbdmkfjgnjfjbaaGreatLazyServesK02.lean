/- What the tables of this translation say of its types. | nib.Common and the reference's NCommon: both come to one number. -/
import Derived.Test.YtbdmkfjgnjfjbaaGreatRows
import Derived.Test.YtbdmkfjgnjfjbaaGreatLazyServesK01
set_option linter.unusedSimpArgs false
set_option linter.unusedVariables false
set_option maxHeartbeats 4000000
set_option maxRecDepth 100000
namespace Go.Proofs.YtbdmkfjgnjfjbaaGreat
theorem elU8:El Tryz.prog 25 5 (.int .u8 0) 1 1 b8:=⟨by kernel_rfl,by kernel_rfl,rfl,by omega,fun _=>rfl,one_b8⟩
theorem Q2n:Agg Tryz.prog 110 8:=⟨_,Tryz.underlying110,rfl,by kernel_rfl⟩
theorem own:ownKnob Tryz.prog.godebug=none:=by kernel_rfl
theorem Qhc:laidOutB Tryz.prog=true:=by kernel_rfl
end Go.Proofs.YtbdmkfjgnjfjbaaGreat
namespace Go.Proofs.YtbdmkfjgnjfjbaaGreat
open Go.RowKit
def com:List UInt8→List UInt8→Nat
 | x::xs,y::ys=>if x=y then 1+com xs ys else 0
 | _,_=>0
theorem com_le (p:List UInt8):∀ q,com p q≤p.length∧com p q≤q.length:=by
 induction p with
 | nil=>intro q;simp [com]
 | cons x xs ih =>
  intro q
  cases q with
  | nil=>simp [com]
  | cons y ys =>
   have:=ih ys
   unfold com
   split<;>simp<;>omega
theorem Qdj (p:List UInt8):∀ q k (h:k<com p q),p[k]'(by have:=com_le p q;omega)=q[k]'(by have:=com_le p q;omega):=by
 induction p with
 | nil=>intro q k h;simp [com] at h
 | cons x xs ih =>
  intro q k h
  cases q with
  | nil=>simp [com] at h
  | cons y ys =>
   unfold com at h
   split at h
   ·rename_i hxy
    cases k with
    | zero=>simpa using hxy
    | succ k=>simpa using ih ys k (by omega)
   ·omega
theorem Qlv (p:List UInt8):∀ q (h1:com p q<p.length) (h2:com p q<q.length),p[com p q]≠q[com p q]:=by
 induction p with
 | nil=>intro q h1;simp at h1
 | cons x xs ih =>
  intro q h1 h2
  cases q with
  | nil=>simp at h2
  | cons y ys =>
   by_cases hxy:x=y
   ·have e:com (x::xs) (y::ys)=com xs ys+1:=by simp [com,hxy];omega
    simp only [e,List.getElem_cons_succ]
    exact ih ys (by rw [e] at h1;simpa using h1) (by rw [e] at h2;simpa using h2)
   ·have e:com (x::xs) (y::ys)=0:=by simp [com,hxy]
    simp only [e,List.getElem_cons_zero]
    exact hxy
theorem Q4z (a b:Option Addr)(c d:Nat)(p q:List UInt8)(w:World)(hp:Bytes w (.slice a p.length c) p)(hq:Bytes w (.slice b q.length d) q) :
  Calls Tryz.prog 91 #[.slice a p.length c,.slice b q.length d] w fun e w'=>e=.returned (.int .i64 (com p q))∧∃ m,w'=w.drewN m:=by
 have hl:=com_le p q
 have hpl:=hp.small
 have hql:=hq.small
 unfold maxLen at hpl hql
 go_enter Tryz.func91,Tryz.ntmps91
 go_wp2
 go_loopw [5] (fun v wr=>∃ k:Nat,k≤com p q∧v=.int .i64 k∧∃ m,wr=w.drewN m) (fun v _=>p.length - (intOf v).toNat)
 case atStart=>exact ⟨0,by omega,rfl,0,rfl⟩
 case round =>
  obtain ⟨k,hk,rfl,m,rfl⟩:=hrel
  by_cases hlt:k<com p q
  ·have hs:=Qdj p q k hlt
   obtain ⟨b1,o1,rfl,h1⟩:=hp.at k (by omega)
   obtain ⟨b2,o2,rfl,h2⟩:=hq.at k (by omega)
   rw [←hs] at h2
   have g1:(k:Int)<(p.length:Int):=by omega
   have g2:(k:Int)<(q.length:Int):=by omega
   clear hs
   have hm:((q.length:Int)<(p.length:Int))∨((p.length:Int)≤(q.length:Int)):=by omega
   rcases hm with hm|hm
   all_goals
    go_wp2
    go_quiet (fail)
    go_wp2
    go_roundw
    case rel=>exact ⟨k+1,by omega,by go_num,_,by first|rfl|rw [World.drewN_drewN]⟩
    case measure=>simp [intOf];omega
  ·obtain rfl:k=com p q:=by omega
   have hm:((q.length:Int)<(p.length:Int))∨((p.length:Int)≤(q.length:Int)):=by omega
   by_cases hin:com p q<p.length∧com p q<q.length
   ·have hs:=Qlv p q hin.1 hin.2
    obtain ⟨b1,o1,rfl,h1⟩:=hp.at (com p q) (by omega)
    obtain ⟨b2,o2,rfl,h2⟩:=hq.at (com p q) (by omega)
    have g1:((com p q:Nat):Int)<(p.length:Int):=by omega
    have g2:((com p q:Nat):Int)<(q.length:Int):=by omega
    have hb:((p[com p q].toNat:Int)==(q[com p q].toNat:Int))=false:=by
     rw [beq_eq_false_iff_ne];intro e;apply hs;exact UInt8.toNat_inj.1 (by omega)
    clear hs
    rcases hm with hm|hm
    all_goals
     go_wp2
     go_quiet (fail)
     go_wp2
     go_ret
     exact ⟨rfl,_,by first|rfl|rw [World.drewN_drewN]⟩
   ·rcases hm with hm|hm
    ·have g1:decide (com p q<q.length)=false:=by rw [decide_eq_false_iff_not];omega
     go_wp2
     go_quiet (fail)
     go_wp2
     go_ret
     exact ⟨rfl,_,by first|rfl|rw [World.drewN_drewN]⟩
    ·have g1:decide (com p q<p.length)=false:=by rw [decide_eq_false_iff_not];omega
     go_wp2
     go_quiet (fail)
     go_wp2
     go_ret
     exact ⟨rfl,_,by first|rfl|rw [World.drewN_drewN]⟩

theorem Q67 (p:List UInt8):∀ (q:List UInt8) (a b:Option Addr) (c d:Nat) (w:World),Bytes w (.slice a p.length c) p→Bytes w (.slice b q.length d) q →
  Calls Tryz.prog 143 #[.slice a p.length c,.slice b q.length d] w fun e w'=>e=.returned (.int .i64 (com p q))∧∃ m,w'=w.drewN m:=by
 induction p with
 | nil =>
  intro q a b c d w hp hq
  have g1:(((0:Nat):Int)==0)=true:=rfl
  go_enter Tryz.func143,Tryz.ntmps143
  simp only [List.length_nil,com]
  go_wp2
  go_quiet (fail)
  go_wp2
  go_ret
  exact ⟨rfl,_,rfl⟩
 | cons x xs ih =>
  intro q a b c d w hp hq
  have hpl:=hp.small
  have hql:=hq.small
  unfold maxLen at hpl hql
  obtain ⟨n,hn⟩:∃ n,n=(x::xs).length:=⟨_,rfl⟩
  have hn1:n=xs.length+1:=by simpa using hn
  rw [←hn] at hp hpl ⊢
  have g1:((n:Int)==0)=false:=by rw [beq_eq_false_iff_ne];omega
  cases q with
  | nil =>
   clear hn hn1
   go_enter Tryz.func143,Tryz.ntmps143
   simp only [List.length_nil,com]
   have g2:(((0:Nat):Int)==0)=true:=rfl
   go_wp2
   go_quiet (fail)
   go_wp2
   go_ret
   exact ⟨rfl,_,rfl⟩
  | cons y ys =>
   obtain ⟨m,hm⟩:∃ m,m=(y::ys).length:=⟨_,rfl⟩
   have hm1:m=ys.length+1:=by simpa using hm
   rw [←hm] at hq hql ⊢
   have g2:((m:Int)==0)=false:=by rw [beq_eq_false_iff_ne];omega
   obtain ⟨b1,o1,rfl,h1⟩:=hp.at 0 (by simp)
   obtain ⟨b2,o2,rfl,h2⟩:=hq.at 0 (by simp)
   have g3:(0:Int)<(n:Int):=by omega
   have g4:(0:Int)<(m:Int):=by omega
   simp only [List.getElem_cons_zero,Nat.add_zero] at h1 h2
   obtain ⟨a',c',s1,r1⟩:=RowOf.from elU8 hp 1 (by omega) 1 rfl
   obtain ⟨b',d',s2,r2⟩:=RowOf.from elU8 hq 1 (by omega) 1 rfl
   have e1:n - 1=xs.length:=by omega
   have e2:m - 1=ys.length:=by omega
   rw [e1] at s1 r1
   rw [e2] at s2 r2
   by_cases hxy:x=y
   ·subst hxy
    have e3:(1:Int)+(com xs ys:Int)=((1+com xs ys:Nat):Int):=by omega
    have E3:=Qhd e3
    have hb:(((x.toNat:Int) != (x.toNat:Int)))=false:=by simp
    have hl:=com_le xs ys
    have hlx:xs.length+1≤9223372036854775807:=by omega
    have hcom:com (x::xs) (x::ys)=1+com xs ys:=by simp [com]
    rw [hcom]
    clear e1 e2 e3 hn hn1 hm hm1 hcom
    go_enter Tryz.func143,Tryz.ntmps143
    go_wp2
    go_quiet (fail)
    go_wp2
    go_quiet ((go_at_call 143;exact Calls.quiet_of2 (ih ys a' b' c' d' _ (by exact r1) (by exact r2))))
    go_wp2
    go_ret
    exact ⟨Q8b E3.out,_,by first|rfl|rw [World.drewN_drewN]⟩
   ·have hb:(((x.toNat:Int) != (y.toNat:Int)))=true:=by rw [bne_iff_ne];intro e;apply hxy;exact UInt8.toNat_inj.1 (by omega)
    have hcom:com (x::xs) (y::ys)=0:=by simp [com,hxy]
    rw [hcom]
    clear e1 e2 hn hn1 hm hm1 hcom
    go_enter Tryz.func143,Tryz.ntmps143
    go_wp2
    go_quiet (fail)
    go_wp2
    go_ret
    exact ⟨rfl,_,by first|rfl|rw [World.drewN_drewN]⟩
end Go.Proofs.YtbdmkfjgnjfjbaaGreat
