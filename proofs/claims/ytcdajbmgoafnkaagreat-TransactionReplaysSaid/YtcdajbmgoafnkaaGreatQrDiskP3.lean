/- Texts of the proof, joined: DiskP3. Names of our own are shortened by program; the long ones stand in wip/. -/
import Derived.Test.YtcdajbmgoafnkaaGreatQrDiskP2

